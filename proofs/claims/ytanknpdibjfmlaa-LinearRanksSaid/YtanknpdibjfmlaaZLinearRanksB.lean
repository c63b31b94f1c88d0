/- What the statement's proof uses: lemmas, and the program's functions as Lean functions; each theorem states its own conditions. Joined by a program. -/
import Derived.Test.YtanknpdibjfmlaaZLinearRanksA
namespace Go.Proofs.Ytanknpdibjfmlaa.P
open Go.RowKit Go.Proofs.YtanknpdibjfmlaaW.PrintWords Go.Proofs.YtanknpdibjfmlaaW.PrintLast Go.Proofs.YtanknpdibjfmlaaW.PrintMore
set_option linter.unusedVariables false
set_option linter.unusedSimpArgs false
set_option maxHeartbeats 8000000 in
set_option maxRecDepth 100000 in
theorem linear_pivot.calls (k : Nat) (v0 : Value) (l : List (List Int)) (a c : Int) (r1 : List (List Int)) (r2 : Bool) (w0 w : World) (hB : Below w0.heap.size w0 w) (ho : Kd.S (Kd.slice 5 (Kd.int .u8)) 23 w w0.heap.size (fun _ => True) v0 l) (h : linear_pivot.f k l a c = some (r1, r2)) :
 Calls Try.prog 26 #[v0, .int .i64 a, .int .i64 c] w fun e w' => e = .returned (.bool r2) ∧ Kd.S (Kd.slice 5 (Kd.int .u8)) 23 w' w0.heap.size (fun _ => True) v0 r1 ∧ Below w0.heap.size w0 w' ∧ Kept w w' (fun k => w0.heap.size ≤ k ∧ MatBlk w k) := by
 have HB := Aside0.mk hB
 clear hB
 unfold linear_pivot.f at h
 by_cases p1 : 0 ≤ a
 ·rw [if_pos p1] at h
  by_cases p2 : a < (l.length : Int)
  ·rw [if_pos p2] at h
   by_cases p3 : 0 ≤ c
   ·rw [if_pos p3] at h
    by_cases p4 : (l.all fun x => decide (c < (x.length : Int))) = true
    ·rw [if_pos p4] at h
     obtain ⟨an, rfl⟩ : ∃ n : Nat, a = n := ⟨a.toNat, by omega⟩
     obtain ⟨g, cap, ev, hg0, hg1, hcl⟩ := Kd.S_form ho (by omega)
     subst ev
     obtain ⟨_, hcap, hC⟩ := Kd.S_reads' ho
     have hmax : l.length ≤ 9223372036854775807 := hC.2.1
     have hlt : ∀ x ∈ l, c < (x.length : Int) := fun x hx => by simpa using List.all_eq_true.1 p4 x hx
     have hW : (w.alloc (.cells #[.int .i64 c] 3)).cell? ⟨w.heap.size, 0, none⟩ = some (.int .i64 c) := by
      rw [World.cell?_alloc_at _ _ _ _ rfl]; rfl
     have hD := Kd.C_alloc (Kd.C_drop (c := cap) hC (m := an) (by omega) hcap) (.cells #[.int .i64 c] 3)
     have eA : (Option.map (fun x : Addr => x.add (an * (Kd.slice 5 (Kd.int .u8)).sz)) (some ⟨g, 0, none⟩)) = some ⟨g, an, none⟩ := by
      show some (Addr.add ⟨g, 0, none⟩ (an * 1)) = _
      rw [Nat.mul_one, add_plain]
     rw [if_neg (by omega), eA] at hD
     rw [Int.toNat_natCast] at h
     obtain ⟨z, hz⟩ : ∃ z, fidx (fun x => !(rd x c == 0)) (l.drop an) 0 = z := ⟨_, rfl⟩
     have HC := Aside0.mk (slices_IndexFunc_38.calls w.heap.size (fun x => !(rd x c == 0)) _ (cap - an) (l.drop an) (w.alloc (.cells #[.int .i64 c] 3)) hD (by rw [List.length_drop]; omega)
      (fun m A cx x hx hCx hlx => linear_pivot_1.calls w.heap.size A cx x c _ hW hCx p3 (hlt x (List.mem_of_mem_drop hx))))
     have hzz := fidx_lt (fun x => !(rd x c == 0)) (l.drop an) 0
     rw [hz] at HC h hzz
     rw [List.length_drop] at hzz HC
     have HZ := Aside0.mk hzz
     have HG := Aside0.mk (show MatBlk w g from ⟨23, .inl rfl, hcl⟩)
     have HS := Aside0.mk (Kd.S_mono (Kd.S_alloc (Kd.S_elderB ho w.heap.size (Nat.le_refl _)) (.cells #[.int .i64 c] 3)) (ok' := fun k => k ≠ w.heap.size) (fun k hk => hk.2))
     have H := Aside0.mk h
     have HL := Aside0.mk hlt
     clear hzz h hlt hD hC ho p4 hcl
     have hmf : ∀ (fn : Fn) (first cap : Array Value) (w : World), (Instr.makeFunc fn first cap).run Try.prog w = .ok (.func fn first cap) w := fun _ _ _ _ => rfl
     by_cases hzn : z < 0
     ·have b1 : decide (z < 0) = true := decide_eq_true hzn
      have hh := H.out
      rw [if_pos hzn] at hh
      obtain ⟨rfl, rfl⟩ := Prod.mk.inj (Option.some.inj hh)
      go_enter Try.func26, Try.ntmps26
      go_wp2_with (first | (go_at_call 37; (with_reducible refine HC.out.mono ?_); rintro e w' ⟨rfl, ⟨nd, rfl⟩⟩))
      go_ret
      exact ⟨rfl, Kd.S_mono (Kd.S_drewN HS.out _) (fun _ _ => trivial), by repeat (first | (with_reducible first | exact HB.out | apply below_alloc | apply pw_below_drewN | apply below_drew1) | exact HB.out), by repeat (first | exact Kept.refl _ _ | apply Kept.drewN | apply Kept.alloc)⟩
     ·have b1 : decide (z < 0) = false := decide_eq_false hzn
      obtain ⟨zn, rfl⟩ : ∃ n : Nat, z = n := ⟨z.toNat, by omega⟩
      have hj : an + zn < l.length := by have := HZ.out; omega
      obtain ⟨A1, c1, A2, c2, hu1, hu2, hf1, hf2⟩ : ∃ A1 c1 A2 c2, (w.alloc (.cells #[.int .i64 c] 3)).cell? ⟨g, an, none⟩ = some (.slice A1 (rd_L1 l an).length c1) ∧ (w.alloc (.cells #[.int .i64 c] 3)).cell? ⟨g, ((an : Int) + (zn : Int)).toNat, none⟩ = some (.slice A2 (rd_L1 l ((an : Int) + (zn : Int))).length c2) ∧ (w.alloc (.cells #[.int .i64 c] 3)).frozen? ⟨g, an, none⟩ = false ∧ (w.alloc (.cells #[.int .i64 c] 3)).frozen? ⟨g, ((an : Int) + (zn : Int)).toNat, none⟩ = false := by
       obtain ⟨inner, hi⟩ := Kd.S_own HS.out
       obtain ⟨u1, _, _, h2⟩ := Mm.own_cell hi an (by omega)
       obtain ⟨u2, _, _, h4⟩ := Mm.own_cell hi ((an : Int) + (zn : Int)).toNat (by omega)
       obtain ⟨ad, A1, c1, e1, h1, _⟩ := at_L1 (Kd.S_reads' HS.out).2.2 (an : Int) (by omega) (by omega)
       cases e1
       obtain ⟨ad, A2, c2, e1, h3, _⟩ := at_L1 (Kd.S_reads' HS.out).2.2 ((an : Int) + (zn : Int)) (by omega) (by omega)
       cases e1
       rw [add_plain] at h1 h3
       exact ⟨A1, c1, A2, c2, h1, h3, h2, h4⟩
      have hx3 : ∀ m, ∃ u3, (((w.alloc (.cells #[.int .i64 c] 3)).drewN m).setCell ⟨g, an, none⟩ (.slice A2 (rd_L1 l ((an : Int) + (zn : Int))).length c2)).cell? ⟨g, ((an : Int) + (zn : Int)).toNat, none⟩ = some u3 ∧ (((w.alloc (.cells #[.int .i64 c] 3)).drewN m).setCell ⟨g, an, none⟩ (.slice A2 (rd_L1 l ((an : Int) + (zn : Int))).length c2)).frozen? ⟨g, ((an : Int) + (zn : Int)).toNat, none⟩ = false := by
       intro m
       obtain ⟨inner, hi⟩ := Kd.S_own (Kd.S_drewN HS.out m)
       obtain ⟨u, _, h1, h2⟩ := Mm.own_cell (Mm.own_set hi an (.slice A2 (rd_L1 l ((an : Int) + (zn : Int))).length c2)).1 ((an : Int) + (zn : Int)).toNat (by omega)
       exact ⟨u, h1, h2⟩
      have q1 : (0 : Int) ≤ (an : Int) + (zn : Int) := by omega
      have q2 : (an : Int) + (zn : Int) < (l.length : Int) := by omega
      have q3 : wrap64 ((an : Int) + (zn : Int)) = (an : Int) + (zn : Int) := by unfold wrap64; omega
      have q4 : IntKind.i64.wrap ((an : Int) + (zn : Int)) = (an : Int) + (zn : Int) := IntWalk.i64_in _ (by omega)
      go_enter Try.func26, Try.ntmps26
      go_wp2_with (first | (go_at_call 37; (with_reducible refine HC.out.mono ?_); rintro e w' ⟨rfl, ⟨nd, rfl⟩⟩))
      refine start_ (n := 20) (S := fun w' => w'.cell? ⟨g, an, none⟩ = some (.slice A1 (rd_L1 l an).length c1) ∧ w'.cell? ⟨g, ((an : Int) + (zn : Int)).toNat, none⟩ = some (.slice A2 (rd_L1 l ((an : Int) + (zn : Int))).length c2)) (ds := [17, 19]) #[false, false, false, false, false, false, false, false, false, false, false, false, false, false, false, false, false, false, false, false] (by kernel_rfl) rfl rfl ⟨hu1, hu2⟩ (fun hHeld => ?_)
      refine pure_ (i := 0) (N := some 17) (v := ?_) (a' := ?_) #[true, false, false, false, false, false, false, false, false, false, false, false, false, false, false, false, false, false, false, false] rfl rfl (by kernel_rfl) (fun _ _ _ h => h) (Or.inl ⟨by rfl, ?_⟩) ?_ ?_
      rotate_left
      ·intro w'
       go_simp
       with_reducible rfl
      rotate_left
      ·simp only [Act.put, List.setIfInBounds_toArray, List.set_cons_zero, List.set_cons_succ, i64_w, i32_w]
       rfl
      refine pure_ (i := 1) (N := some 18) (v := ?_) (a' := ?_) #[true, true, false, false, false, false, false, false, false, false, false, false, false, false, false, false, false, false, false, false] rfl rfl (by kernel_rfl) (fun _ _ _ h => h) (Or.inl ⟨by rfl, ?_⟩) ?_ ?_
      rotate_left
      ·intro w'
       go_simp
       with_reducible rfl
      rotate_left
      ·simp only [Act.put, List.setIfInBounds_toArray, List.set_cons_zero, List.set_cons_succ, i64_w, i32_w]
       rfl
      refine pure_ (i := 2) (N := some 19) (v := ?_) (a' := ?_) #[true, true, true, false, false, false, false, false, false, false, false, false, false, false, false, false, false, false, false, false] rfl rfl (by kernel_rfl) (fun _ _ _ h => h) (Or.inl ⟨by rfl, ?_⟩) ?_ ?_
      rotate_left
      ·intro w'
       go_simp
       with_reducible rfl
      rotate_left
      ·simp only [Act.put, List.setIfInBounds_toArray, List.set_cons_zero, List.set_cons_succ, i64_w, i32_w]
       rfl
      refine pure_ (i := 3) (N := some 20) (v := ?_) (a' := ?_) #[true, true, true, true, false, false, false, false, false, false, false, false, false, false, false, false, false, false, false, false] rfl rfl (by kernel_rfl) (fun _ _ _ h => h) (Or.inl ⟨by rfl, ?_⟩) ?_ ?_
      rotate_left
      ·intro w'
       go_simp
       with_reducible rfl
      rotate_left
      ·simp only [Act.put, List.setIfInBounds_toArray, List.set_cons_zero, List.set_cons_succ, i64_w, i32_w]
       rfl
      refine pure_ (i := 4) (N := some 21) (v := ?_) (a' := ?_) #[true, true, true, true, true, false, false, false, false, false, false, false, false, false, false, false, false, false, false, false] rfl rfl (by kernel_rfl) (fun _ _ _ h => h) (Or.inl ⟨by rfl, ?_⟩) ?_ ?_
      rotate_left
      ·intro w'
       go_simp
       with_reducible rfl
      rotate_left
      ·simp only [Act.put, List.setIfInBounds_toArray, List.set_cons_zero, List.set_cons_succ, i64_w, i32_w]
       rfl
      refine pure_ (i := 5) (N := some 22) (v := ?_) (a' := ?_) #[true, true, true, true, true, true, false, false, false, false, false, false, false, false, false, false, false, false, false, false] rfl rfl (by kernel_rfl) (fun _ _ _ h => h) (Or.inl ⟨by rfl, ?_⟩) ?_ ?_
      rotate_left
      ·intro w'
       go_simp
       with_reducible rfl
      rotate_left
      ·simp only [Act.put, List.setIfInBounds_toArray, List.set_cons_zero, List.set_cons_succ, i64_w, i32_w]
       rfl
      refine pure_ (i := 6) (N := some 23) (v := ?_) (a' := ?_) #[true, true, true, true, true, true, true, false, false, false, false, false, false, false, false, false, false, false, false, false] rfl rfl (by kernel_rfl) (fun _ _ _ h => h) (Or.inl ⟨by rfl, ?_⟩) ?_ ?_
      rotate_left
      ·intro w'
       go_simp
       with_reducible rfl
      rotate_left
      ·simp only [Act.put, List.setIfInBounds_toArray, List.set_cons_zero, List.set_cons_succ, i64_w, i32_w]
       rfl
      refine pure_ (i := 7) (N := some 24) (v := ?_) (a' := ?_) #[true, true, true, true, true, true, true, true, false, false, false, false, false, false, false, false, false, false, false, false] rfl rfl (by kernel_rfl) (fun _ _ _ h => h) (Or.inl ⟨by rfl, ?_⟩) ?_ ?_
      rotate_left
      ·intro w'
       go_simp
       with_reducible rfl
      rotate_left
      ·simp only [Act.put, List.setIfInBounds_toArray, List.set_cons_zero, List.set_cons_succ, i64_w, i32_w]
       rfl
      refine pure_ (i := 8) (N := some 25) (v := ?_) (a' := ?_) #[true, true, true, true, true, true, true, true, true, false, false, false, false, false, false, false, false, false, false, false] rfl rfl (by kernel_rfl) (fun _ _ _ h => h) (Or.inl ⟨by rfl, ?_⟩) ?_ ?_
      rotate_left
      ·intro w'
       go_simp
       with_reducible rfl
      rotate_left
      ·simp only [Act.put, List.setIfInBounds_toArray, List.set_cons_zero, List.set_cons_succ, i64_w, i32_w]
       rfl
      refine pure_ (i := 9) (N := some 26) (v := ?_) (a' := ?_) #[true, true, true, true, true, true, true, true, true, true, false, false, false, false, false, false, false, false, false, false] rfl rfl (by kernel_rfl) (fun _ _ _ h => h) (Or.inl ⟨by rfl, ?_⟩) ?_ ?_
      rotate_left
      ·intro w'
       go_simp
       with_reducible rfl
      rotate_left
      ·simp only [Act.put, List.setIfInBounds_toArray, List.set_cons_zero, List.set_cons_succ, i64_w, i32_w]
       rfl
      refine pure_ (i := 10) (N := some 27) (v := ?_) (a' := ?_) #[true, true, true, true, true, true, true, true, true, true, true, false, false, false, false, false, false, false, false, false] rfl rfl (by kernel_rfl) (fun _ _ _ h => h) (Or.inl ⟨by rfl, ?_⟩) ?_ ?_
      rotate_left
      ·intro w'
       go_simp
       with_reducible rfl
      rotate_left
      ·simp only [Act.put, List.setIfInBounds_toArray, List.set_cons_zero, List.set_cons_succ, i64_w, i32_w]
       rfl
      refine pure_ (i := 12) (N := some 29) (v := ?_) (a' := ?_) #[true, true, true, true, true, true, true, true, true, true, true, false, true, false, false, false, false, false, false, false] rfl rfl (by kernel_rfl) (fun _ _ _ h => h) (Or.inl ⟨by rfl, ?_⟩) ?_ ?_
      rotate_left
      ·intro w'
       go_simp
       with_reducible rfl
      rotate_left
      ·simp only [Act.put, List.setIfInBounds_toArray, List.set_cons_zero, List.set_cons_succ, i64_w, i32_w]
       rfl
      refine pure_ (i := 13) (N := some 30) (v := ?_) (a' := ?_) #[true, true, true, true, true, true, true, true, true, true, true, false, true, true, false, false, false, false, false, false] rfl rfl (by kernel_rfl) (fun _ _ _ h => h) (Or.inl ⟨by rfl, ?_⟩) ?_ ?_
      rotate_left
      ·intro w'
       go_simp
       with_reducible rfl
      rotate_left
      ·simp only [Act.put, List.setIfInBounds_toArray, List.set_cons_zero, List.set_cons_succ, i64_w, i32_w]
       rfl
      refine pure_ (i := 14) (N := some 31) (v := ?_) (a' := ?_) #[true, true, true, true, true, true, true, true, true, true, true, false, true, true, true, false, false, false, false, false] rfl rfl (by kernel_rfl) (fun _ _ _ h => h) (Or.inl ⟨by rfl, ?_⟩) ?_ ?_
      rotate_left
      ·intro w'
       go_simp
       with_reducible rfl
      rotate_left
      ·simp only [Act.put, List.setIfInBounds_toArray, List.set_cons_zero, List.set_cons_succ, i64_w, i32_w]
       rfl
      refine take_ (i := 11) (N := some 28) (v := ?_) (a' := ?_) #[true, true, true, true, true, true, true, true, true, true, true, true, true, true, true, false, false, false, false, false] rfl rfl (by kernel_rfl) (fun _ _ _ h => h) (Or.inl ⟨by rfl, ?_⟩) hHeld ?_ ?_
      rotate_left
      ·rintro w' ⟨s0, s1⟩
       go_simp
       with_reducible rfl
      rotate_left
      ·simp only [Act.put, List.setIfInBounds_toArray, List.set_cons_zero, List.set_cons_succ, i64_w, i32_w]
       rfl
      refine take_ (i := 15) (N := some 32) (v := ?_) (a' := ?_) #[true, true, true, true, true, true, true, true, true, true, true, true, true, true, true, true, false, false, false, false] rfl rfl (by kernel_rfl) (fun _ _ _ h => h) (Or.inl ⟨by rfl, ?_⟩) hHeld ?_ ?_
      rotate_left
      ·rintro w' ⟨s0, s1⟩
       go_simp
       with_reducible rfl
      rotate_left
      ·simp only [Act.put, List.setIfInBounds_toArray, List.set_cons_zero, List.set_cons_succ, i64_w, i32_w]
       rfl
      refine pure_ (i := 16) (N := some 33) (v := ?_) (a' := ?_) #[true, true, true, true, true, true, true, true, true, true, true, true, true, true, true, true, true, false, false, false] rfl rfl (by kernel_rfl) (fun _ _ _ h => h) (Or.inl ⟨by rfl, ?_⟩) ?_ ?_
      rotate_left
      ·intro w'
       go_simp
       with_reducible rfl
      rotate_left
      ·simp only [Act.put, List.setIfInBounds_toArray, List.set_cons_zero, List.set_cons_succ, i64_w, i32_w]
       rfl
      refine last_ (i := 17) (N := none) #[true, true, true, true, true, true, true, true, true, true, true, true, true, true, true, true, true, true, false, false] rfl rfl (by kernel_rfl) (by decide) (fun K hK => ?_)
      refine skip_ (w1 := ?_) (by rfl) rfl ?_ ?_
      rotate_left
      ·go_simp
       rfl
      obtain ⟨u3, hu3, hf3⟩ := hx3 (nd + 1)
      refine hK.out _ _ ?_
      clear hK K
      refine pure_ (i := 18) (N := some 34) (v := ?_) (a' := ?_) #[true, true, true, true, true, true, true, true, true, true, true, true, true, true, true, true, true, true, true, false] rfl rfl (by kernel_rfl) (fun _ _ _ h => h) (Or.inl ⟨by rfl, ?_⟩) ?_ ?_
      rotate_left
      ·intro w'
       go_simp
       with_reducible rfl
      rotate_left
      ·simp only [Act.put, List.setIfInBounds_toArray, List.set_cons_zero, List.set_cons_succ, i64_w, i32_w]
       rfl
      refine last_ (i := 19) (N := none) #[true, true, true, true, true, true, true, true, true, true, true, true, true, true, true, true, true, true, true, true] rfl rfl (by kernel_rfl) (by decide) (fun K hK => ?_)
      refine skip_ (w1 := ?_) (by rfl) rfl ?_ ?_
      rotate_left
      ·go_simp
       rfl
      refine hK.out _ _ ?_
      clear hK K
      refine done_ (by kernel_rfl) ?_
      have hw5 := Mm.S_swap (Kd.S_drewN HS.out (nd + 1)) an ((an : Int) + (zn : Int)).toNat (by omega) (by omega) hu1 hu2
      have hb5 : Below w0.heap.size w0 ((((w.alloc (.cells #[.int .i64 c] 3)).drewN (nd + 1)).setCell ⟨g, an, none⟩ (.slice A2 (rd_L1 l ((an : Int) + (zn : Int))).length c2)).setCell ⟨g, ((an : Int) + (zn : Int)).toNat, none⟩ (.slice A1 (rd_L1 l an).length c1)) := below_set (below_set (pw_below_drewN (below_alloc HB.out _) _) hg0) hg0
      have hk5 : Kept w ((((w.alloc (.cells #[.int .i64 c] 3)).drewN (nd + 1)).setCell ⟨g, an, none⟩ (.slice A2 (rd_L1 l ((an : Int) + (zn : Int))).length c2)).setCell ⟨g, ((an : Int) + (zn : Int)).toNat, none⟩ (.slice A1 (rd_L1 l an).length c1)) (fun k => w0.heap.size ≤ k ∧ MatBlk w k) := Kept.setCell (Kept.setCell (Kept.drewN (Kept.alloc (Kept.refl _ _) _) _) (.inl ⟨hg0, HG.out⟩) _) (.inl ⟨hg0, HG.out⟩) _
      have hc5 : ((((w.alloc (.cells #[.int .i64 c] 3)).drewN (nd + 1)).setCell ⟨g, an, none⟩ (.slice A2 (rd_L1 l ((an : Int) + (zn : Int))).length c2)).setCell ⟨g, ((an : Int) + (zn : Int)).toNat, none⟩ (.slice A1 (rd_L1 l an).length c1)).cell? ⟨w.heap.size, 0, none⟩ = some (.int .i64 c) := by
       rw [World.cell?_setCell_far _ ⟨g, _, none⟩ ⟨w.heap.size, 0, none⟩ _ (by show g ≠ w.heap.size; omega), World.cell?_setCell_far _ ⟨g, _, none⟩ ⟨w.heap.size, 0, none⟩ _ (by show g ≠ w.heap.size; omega)]
       exact hW
      clear hu1 hu2 hf1 hf2 hx3 hu3 hf3
      generalize ((((w.alloc (.cells #[.int .i64 c] 3)).drewN (nd + 1)).setCell ⟨g, an, none⟩ (.slice A2 (rd_L1 l ((an : Int) + (zn : Int))).length c2)).setCell ⟨g, ((an : Int) + (zn : Int)).toNat, none⟩ (.slice A1 (rd_L1 l an).length c1)) = w5 at hw5 hb5 hk5 hc5 ⊢
      obtain ⟨l1, hl1⟩ : ∃ x, linear_pivot.sw l an ((an : Int) + (zn : Int)).toNat = x := ⟨_, rfl⟩
      have hln : l1.length = l.length := by rw [← hl1]; simp [linear_pivot.sw]
      have hget : rd_L1 l1 (an : Int) = rd_L1 l ((an : Int) + (zn : Int)) := by
       rw [← hl1]
       exact linear_pivot.sw_get l an _ (by omega) (by omega)
      have hcl1 : c < ((rd_L1 l1 (an : Int)).length : Int) := by
       rw [hget]
       refine HL.out _ ?_
       rw [rd_L1, List.getD_eq_getElem?_getD, List.getElem?_eq_getElem (by omega)]
       exact List.getElem_mem _
      have hh := H.out
      rw [hl1, if_neg (show ¬ (zn : Int) < 0 by omega)] at hh
      replace hh := Option.bind_eq_some_iff.mp hh
      obtain ⟨v, hv, hh⟩ := hh
      replace hh := Option.bind_eq_some_iff.mp hh
      obtain ⟨s, hs, hh⟩ := hh
      replace hh := Option.bind_eq_some_iff.mp hh
      obtain ⟨l2, hl2, hh⟩ := hh
      obtain ⟨rfl, rfl⟩ := Prod.mk.inj (Option.some.inj hh)
      have hw5' : Kd.S (Kd.slice 5 (Kd.int .u8)) 23 w5 w0.heap.size (fun k => k ≠ w.heap.size) (.slice (some ⟨g, 0, none⟩) l.length cap) l1 := by rw [← hl1]; exact hw5
      have HS5 := Aside0.mk hw5'
      have HV := Aside0.mk hv
      have HSC := Aside0.mk hs
      have HL2 := Aside0.mk hl2
      have HB5 := Aside0.mk hb5
      have HK5 := Aside0.mk hk5
      obtain ⟨ad, A3, c3, e1, hy1, hl3, hC3⟩ := at_L1 (Kd.S_reads' HS5.out).2.2 (an : Int) (by omega) (by omega)
      cases e1
      rw [add_plain, Int.toNat_natCast] at hy1
      obtain ⟨ad3, e1, hy2⟩ := Kd.at_int hC3 c p3 hcl1
      cases e1
      have hy3 := hc5
      have HC3 := Aside0.mk hC3
      have HL3 := Aside0.mk hl3
      have HLN := Aside0.mk hln
      have HAN := Aside0.mk (show an < l.length by omega)
      have r1 : (0 : Int) ≤ (an : Int) := p1
      have r2 : (an : Int) < (l.length : Int) := p2
      clear q3 q4 hget hC3 hl3 hw5 hw5' hv hs hl2 hb5 hk5 hc5 hh H HC HS hW
      go_wp2
      refine start_ (n := 17) (S := fun w' => w'.cell? ⟨g, an, none⟩ = some (.slice (some ad3) (rd_L1 l1 (an : Int)).length c3) ∧ w'.cell? (ad3.add c.toNat) = some (.int .u8 (rd (rd_L1 l1 (an : Int)) c)) ∧ w'.cell? ⟨w.heap.size, 0, none⟩ = some (.int .i64 c)) (ds := [16]) #[false, false, false, false, false, false, false, false, false, false, false, false, false, false, false, false, false] (by kernel_rfl) rfl rfl ⟨hy1, hy2, hy3⟩ (fun hHeld => ?_)
      refine pure_ (i := 0) (N := some 35) (v := ?_) (a' := ?_) #[true, false, false, false, false, false, false, false, false, false, false, false, false, false, false, false, false] rfl rfl (by kernel_rfl) (fun _ _ _ h => h) (Or.inl ⟨by rfl, ?_⟩) ?_ ?_
      rotate_left
      ·intro w'
       go_simp
       with_reducible rfl
      rotate_left
      ·simp only [Act.put, List.setIfInBounds_toArray, List.set_cons_zero, List.set_cons_succ, i64_w, i32_w]
       rfl
      refine pure_ (i := 1) (N := some 36) (v := ?_) (a' := ?_) #[true, true, false, false, false, false, false, false, false, false, false, false, false, false, false, false, false] rfl rfl (by kernel_rfl) (fun _ _ _ h => h) (Or.inl ⟨by rfl, ?_⟩) ?_ ?_
      rotate_left
      ·intro w'
       go_simp
       with_reducible rfl
      rotate_left
      ·simp only [Act.put, List.setIfInBounds_toArray, List.set_cons_zero, List.set_cons_succ, i64_w, i32_w]
       rfl
      refine pure_ (i := 2) (N := some 37) (v := ?_) (a' := ?_) #[true, true, true, false, false, false, false, false, false, false, false, false, false, false, false, false, false] rfl rfl (by kernel_rfl) (fun _ _ _ h => h) (Or.inl ⟨by rfl, ?_⟩) ?_ ?_
      rotate_left
      ·intro w'
       go_simp
       with_reducible rfl
      rotate_left
      ·simp only [Act.put, List.setIfInBounds_toArray, List.set_cons_zero, List.set_cons_succ, i64_w, i32_w]
       rfl
      refine pure_ (i := 3) (N := some 38) (v := ?_) (a' := ?_) #[true, true, true, true, false, false, false, false, false, false, false, false, false, false, false, false, false] rfl rfl (by kernel_rfl) (fun _ _ _ h => h) (Or.inl ⟨by rfl, ?_⟩) ?_ ?_
      rotate_left
      ·intro w'
       go_simp
       with_reducible rfl
      rotate_left
      ·simp only [Act.put, List.setIfInBounds_toArray, List.set_cons_zero, List.set_cons_succ, i64_w, i32_w]
       rfl
      refine pure_ (i := 4) (N := some 39) (v := ?_) (a' := ?_) #[true, true, true, true, true, false, false, false, false, false, false, false, false, false, false, false, false] rfl rfl (by kernel_rfl) (fun _ _ _ h => h) (Or.inl ⟨by rfl, ?_⟩) ?_ ?_
      rotate_left
      ·intro w'
       go_simp
       with_reducible rfl
      rotate_left
      ·simp only [Act.put, List.setIfInBounds_toArray, List.set_cons_zero, List.set_cons_succ, i64_w, i32_w]
       rfl
      refine pure_ (i := 6) (N := some 41) (v := ?_) (a' := ?_) #[true, true, true, true, true, false, true, false, false, false, false, false, false, false, false, false, false] rfl rfl (by kernel_rfl) (fun _ _ _ h => h) (Or.inl ⟨by rfl, ?_⟩) ?_ ?_
      rotate_left
      ·intro w'
       go_simp
       with_reducible rfl
      rotate_left
      ·simp only [Act.put, List.setIfInBounds_toArray, List.set_cons_zero, List.set_cons_succ, i64_w, i32_w]
       rfl
      refine pure_ (i := 7) (N := some 42) (v := ?_) (a' := ?_) #[true, true, true, true, true, false, true, true, false, false, false, false, false, false, false, false, false] rfl rfl (by kernel_rfl) (fun _ _ _ h => h) (Or.inl ⟨by rfl, ?_⟩) ?_ ?_
      rotate_left
      ·intro w'
       go_simp
       with_reducible rfl
      rotate_left
      ·simp only [Act.put, List.setIfInBounds_toArray, List.set_cons_zero, List.set_cons_succ, i64_w, i32_w]
       rfl
      refine pure_ (i := 8) (N := some 43) (v := ?_) (a' := ?_) #[true, true, true, true, true, false, true, true, true, false, false, false, false, false, false, false, false] rfl rfl (by kernel_rfl) (fun _ _ _ h => h) (Or.inl ⟨by rfl, ?_⟩) ?_ ?_
      rotate_left
      ·intro w'
       go_simp
       with_reducible rfl
      rotate_left
      ·simp only [Act.put, List.setIfInBounds_toArray, List.set_cons_zero, List.set_cons_succ, i64_w, i32_w]
       rfl
      refine take_ (i := 5) (N := some 40) (v := ?_) (a' := ?_) #[true, true, true, true, true, true, true, true, true, false, false, false, false, false, false, false, false] rfl rfl (by kernel_rfl) (fun _ _ _ h => h) (Or.inl ⟨by rfl, ?_⟩) hHeld ?_ ?_
      rotate_left
      ·rintro w' ⟨s0, s1, s2⟩
       go_simp
       with_reducible rfl
      rotate_left
      ·simp only [Act.put, List.setIfInBounds_toArray, List.set_cons_zero, List.set_cons_succ, i64_w, i32_w]
       rfl
      refine take_ (i := 9) (N := some 44) (v := ?_) (a' := ?_) #[true, true, true, true, true, true, true, true, true, true, false, false, false, false, false, false, false] rfl rfl (by kernel_rfl) (fun _ _ _ h => h) (Or.inl ⟨by rfl, ?_⟩) hHeld ?_ ?_
      rotate_left
      ·rintro w' ⟨s0, s1, s2⟩
       go_simp
       with_reducible rfl
      rotate_left
      ·simp only [Act.put, List.setIfInBounds_toArray, List.set_cons_zero, List.set_cons_succ, i64_w, i32_w]
       rfl
      refine take_ (i := 10) (N := some 45) (v := ?_) (a' := ?_) #[true, true, true, true, true, true, true, true, true, true, true, false, false, false, false, false, false] rfl rfl (by kernel_rfl) (fun _ _ _ h => h) (Or.inl ⟨by rfl, ?_⟩) hHeld ?_ ?_
      rotate_left
      ·rintro w' ⟨s0, s1, s2⟩
       go_simp
       with_reducible rfl
      rotate_left
      ·simp only [Act.put, List.setIfInBounds_toArray, List.set_cons_zero, List.set_cons_succ, i64_w, i32_w]
       rfl
      refine pure_ (i := 11) (N := some 46) (v := ?_) (a' := ?_) #[true, true, true, true, true, true, true, true, true, true, true, true, false, false, false, false, false] rfl rfl (by kernel_rfl) (fun _ _ _ h => h) (Or.inl ⟨by rfl, ?_⟩) ?_ ?_
      rotate_left
      ·intro w'
       go_simp
       with_reducible rfl
      rotate_left
      ·simp only [Act.put, List.setIfInBounds_toArray, List.set_cons_zero, List.set_cons_succ, i64_w, i32_w]
       rfl
      refine take_ (i := 12) (N := some 47) (v := ?_) (a' := ?_) #[true, true, true, true, true, true, true, true, true, true, true, true, true, false, false, false, false] rfl rfl (by kernel_rfl) (fun _ _ _ h => h) (Or.inl ⟨by rfl, ?_⟩) hHeld ?_ ?_
      rotate_left
      ·rintro w' ⟨s0, s1, s2⟩
       go_simp
       with_reducible rfl
      rotate_left
      ·simp only [Act.put, List.setIfInBounds_toArray, List.set_cons_zero, List.set_cons_succ, i64_w, i32_w]
       rfl
      refine one_ (i := 13) (N := some 48) #[true, true, true, true, true, true, true, true, true, true, true, true, true, true, false, false, false] rfl rfl (by kernel_rfl) (by decide) (fun K hK => ?_)
      refine goes_ Try.func40 (by kernel_rfl) rfl #[.int .u8 (rd (rd_L1 l1 (an : Int)) c)] (by rfl) rfl rfl (by simp only [List.map_toArray, List.map_cons, List.map_nil]; rfl) ?_
      with_reducible refine (gf_Inv.calls k _ v _ HV.out).mono ?_
      rintro e w7 ⟨rfl, ⟨n7, rfl⟩⟩
      refine ⟨_, rfl, ?_⟩
      refine hK.out _ _ ⟨hHeld.1, hHeld.2.1, hHeld.2.2⟩ (fun hHeld => ?_)
      clear hK K
      refine norm_ (a' := ?_) ?_ ?_
      rotate_left
      ·show Act.put _ (some 48) _ = _
       simp only [Act.put, List.setIfInBounds_toArray, List.set_cons_zero, List.set_cons_succ, i64_w, i32_w]
       rfl
      refine one_ (i := 14) (N := some 49) #[true, true, true, true, true, true, true, true, true, true, true, true, true, true, true, false, false] rfl rfl (by kernel_rfl) (by decide) (fun K hK => ?_)
      refine goes_ Try.func39 (by kernel_rfl) rfl #[.slice (some ad3) (rd_L1 l1 (an : Int)).length c3, .int .u8 v] (by rfl) rfl rfl (by simp only [List.map_toArray, List.map_cons, List.map_nil]; rfl) ?_
      with_reducible refine (gf_Scale.calls k _ _ _ _ s _ (Kd.C_drewN (Kd.C_drew HC3.out) n7) HL3.out HSC.out).mono ?_
      rintro e w8 ⟨v3, rfl, ho3, hb3⟩
      refine ⟨_, rfl, ?_⟩
      obtain ⟨A4, c4, e4⟩ := Kd.R_slice ho3
      subst e4
      have HO3 := Aside0.mk ho3
      have HB3 := Aside0.mk hb3
      obtain ⟨hx4, hf4⟩ : (∃ u, w8.cell? ⟨g, an, none⟩ = some u) ∧ w8.frozen? ⟨g, an, none⟩ = false := by
       obtain ⟨inner, hi⟩ := Kd.S_own (Kd.S_below (Kd.S_drewN (Kd.S_drew HS5.out) n7) hb3)
       rw [HLN.out] at hi
       obtain ⟨u, _, h1, h2⟩ := Mm.own_cell hi an HAN.out
       exact ⟨⟨u, h1⟩, h2⟩
      obtain ⟨u4, hu4⟩ := hx4
      clear ho3
      refine hK.out _ _ ⟨(hb3.cell (World.block_lt_of_cell? _ _ hHeld.1)).trans hHeld.1, (hb3.cell (World.block_lt_of_cell? _ _ hHeld.2.1)).trans hHeld.2.1, (hb3.cell (World.block_lt_of_cell? _ _ hHeld.2.2)).trans hHeld.2.2⟩ (fun hHeld => ?_)
      clear hK K
      refine norm_ (a' := ?_) ?_ ?_
      rotate_left
      ·show Act.put _ (some 49) _ = _
       simp only [Act.put, List.setIfInBounds_toArray, List.set_cons_zero, List.set_cons_succ, i64_w, i32_w]
       rfl
      refine pure_ (i := 15) (N := some 50) (v := ?_) (a' := ?_) #[true, true, true, true, true, true, true, true, true, true, true, true, true, true, true, true, false] rfl rfl (by kernel_rfl) (fun _ _ _ h => h) (Or.inl ⟨by rfl, ?_⟩) ?_ ?_
      rotate_left
      ·intro w'
       go_simp
       with_reducible rfl
      rotate_left
      ·simp only [Act.put, List.setIfInBounds_toArray, List.set_cons_zero, List.set_cons_succ, i64_w, i32_w]
       rfl
      refine last_ (i := 16) (N := none) #[true, true, true, true, true, true, true, true, true, true, true, true, true, true, true, true, true] rfl rfl (by kernel_rfl) (by decide) (fun K hK => ?_)
      refine skip_ (w1 := ?_) (by rfl) rfl ?_ ?_
      rotate_left
      ·go_simp
       rfl
      refine hK.out _ _ ?_
      clear hK K
      refine done_ (by kernel_rfl) ?_
      have hw6 := Mm.S_replace (Kd.S_drewN (Kd.S_drew HS5.out) n7) an HAN.out HB3.out (by exact HB5.out.size) (fun k hk => by have := World.block_lt_of_cell? _ _ hy3; have hk' : w5.heap.size ≤ k := hk; have h2 : w.heap.size < w5.heap.size := this; omega) HO3.out
      have HS6 := Aside0.mk hw6.1
      have HB6 := Aside0.mk (below_set (j := an) (v := .slice A4 s.length c4) (below_step (pw_below_drewN (below_drew1 HB5.out) n7) HB3.out) hg0)
      have HK6 := Aside0.mk (Kept.setCell (p := ⟨g, an, none⟩) (Kept.below (Kept.drewN (Kept.drew HK5.out) n7) HB3.out) (.inl ⟨hg0, HG.out⟩) (.slice A4 s.length c4))
      have hc6 : (w8.setCell ⟨g, an, none⟩ (.slice A4 s.length c4)).cell? ⟨w.heap.size, 0, none⟩ = some (.int .i64 c) := by
       rw [World.cell?_setCell_far _ ⟨g, _, none⟩ ⟨w.heap.size, 0, none⟩ _ (by show g ≠ w.heap.size; omega)]
       exact (hb3.cell (World.block_lt_of_cell? _ _ hy3)).trans hy3
      have HX6 := Aside0.mk hc6
      clear hw6 hb3 HO3 HB3 hu4 hf4 hy1 hy2 hy3 HS5 HB5 HK5 HC3 HL3 hc6 hHeld
      generalize w8.setCell ⟨g, an, none⟩ (.slice A4 s.length c4) = wA at HS6 HB6 HK6 HX6 ⊢
      go_wp2
      go_loopg [53] k (fun kq v53 w' => ∃ (x : List (List Int)) (i : Int), v53 = .int .i64 i ∧ Aside0 (linear_pivot.l0 kq x an c (l.length : Int) i = some l2) ∧ Aside0 (kq ≤ k) ∧ Aside0 (Kd.S (Kd.slice 5 (Kd.int .u8)) 23 w' w0.heap.size (fun k => k ≠ w.heap.size) (.slice (some ⟨g, 0, none⟩) l.length cap) x) ∧ Aside0 (Below w0.heap.size w0 w') ∧ Aside0 (Kept w w' (fun k => w0.heap.size ≤ k ∧ MatBlk w k)) ∧ Aside0 (w'.cell? ⟨w.heap.size, 0, none⟩ = some (.int .i64 c)))
      case atStart => exact ⟨_, 0, rfl, HL2, ⟨Nat.le_refl _⟩, HS6, HB6, HK6, HX6⟩
      case round =>
       clear HL2 HS6 HB6 HK6 HX6
       obtain ⟨x, i, rfl, HA, HK1, HS, HB, HK, HX⟩ := hrel
       cases gk with
       | zero => exact absurd HA.out (by simp [linear_pivot.l0])
       | succ k1 =>
        have H := HA.out
        clear HA
        simp only [linear_pivot.l0] at H
        have hxl := (Kd.S_reads' HS.out).1
        by_cases t1 : i < (l.length : Int)
        ·rw [if_pos t1] at H
         by_cases t2 : 0 ≤ i
         ·rw [if_pos t2] at H
          by_cases t3 : i < (x.length : Int)
          ·rw [if_pos t3] at H
           by_cases t4 : (an : Int) < (x.length : Int)
           ·rw [if_pos r1, if_pos t4] at H
            have t1b : decide (i < (l.length : Int)) = true := decide_eq_true t1
            obtain ⟨ad, A6, c6, e1, hx6, hl6, hC6⟩ := at_L1 (Kd.S_reads' HS.out).2.2 i t2 t3
            cases e1
            rw [add_plain] at hx6
            by_cases t5 : i = (an : Int)
            ·rw [if_pos t5] at H
             have t5b : (i == (an : Int)) = true := by simpa using t5
             have H' := Aside0.mk H
             clear H hl6 hC6 t5
             clear hxl
             replace t2 := eq_true t2
             replace t1 := eq_true t1
             go_wp2
             go_roundg k1
             case measure => have := HK1.out; omega
             case rel => exact ⟨x, _, (by first | rfl | (simp; done) | (simp [*]; done)), H', ⟨by have := HK1.out; omega⟩, HS, HB, HK, HX⟩
            ·rw [if_neg t5] at H
             by_cases t6 : 0 ≤ c
             ·rw [if_pos t6] at H
              by_cases t7 : c < ((rd_L1 x i).length : Int)
              ·rw [if_pos t7] at H
               replace H := Option.bind_eq_some_iff.mp H
               obtain ⟨y, ht, H⟩ := H
               have HT := Aside0.mk ht
               have H' := Aside0.mk H
               have t5b : (i == (an : Int)) = false := by simpa using t5
               obtain ⟨ad6, e1, hz2⟩ := Kd.at_int hC6 c p3 t7
               cases e1
               obtain ⟨ad, A5, c5, e1, hz1, hl5, _⟩ := at_L1 (Kd.S_reads' HS.out).2.2 (an : Int) r1 t4
               cases e1
               rw [add_plain, Int.toNat_natCast] at hz1
               have hz3 := HX.out
               obtain ⟨oki, hoki, hR6, hoth, hback⟩ := Mm.S_turn HS.out i.toNat (by omega) (fun k hk => by have := World.block_lt_of_cell? _ _ hz3; have h2 : w.heap.size < wr.heap.size := this; omega) hx6
               obtain ⟨A5', c5', e5, hl5', hC5⟩ := hoth an _ (by omega) (by omega) hz1
               injection e5 with e5a e5b e5c
               subst e5a; subst e5c
               have HR6 := Aside0.mk (show Kd.R (Kd.int .u8) 5 wr w0.heap.size oki (.slice (some ad6) (rd_L1 x i).length c6) (rd_L1 x i) from hR6)
               have HC5 := Aside0.mk (show ∀ W1, Kept wr W1 oki → Kd.C (Kd.int .u8) W1 A5 (rd_L1 x (an : Int)).length (rd_L1 x (an : Int)) from hC5)
               have HL5 := Aside0.mk hl5
               have HBK := Aside0.mk hback
               have HOK := Aside0.mk hoki
               have HXL := Aside0.mk hxl
               clear t5 hxl ht H hl6 hC6 hR6 hoth hback hC5 hl5 hl5' hoki e5b
               replace t2 := eq_true t2
               replace t1 := eq_true t1
               go_wp2
               refine start_ (n := 10) (S := fun w' => w'.cell? ⟨g, an, none⟩ = some (.slice A5 (rd_L1 x (an : Int)).length c5) ∧ w'.cell? (ad6.add c.toNat) = some (.int .u8 (rd (rd_L1 x i) c)) ∧ w'.cell? ⟨w.heap.size, 0, none⟩ = some (.int .i64 c)) (ds := [9]) #[false, false, false, false, false, false, false, false, false, false] (by kernel_rfl) rfl rfl ⟨hz1, hz2, hz3⟩ (fun hHeld => ?_)
               refine pure_ (i := 0) (N := some 61) (v := ?_) (a' := ?_) #[true, false, false, false, false, false, false, false, false, false] rfl rfl (by kernel_rfl) (fun _ _ _ h => h) (Or.inl ⟨by rfl, ?_⟩) ?_ ?_
               rotate_left
               ·intro w'
                go_simp
                with_reducible rfl
               rotate_left
               ·simp only [Act.put, List.setIfInBounds_toArray, List.set_cons_zero, List.set_cons_succ, i64_w, i32_w]
                rfl
               refine pure_ (i := 1) (N := some 62) (v := ?_) (a' := ?_) #[true, true, false, false, false, false, false, false, false, false] rfl rfl (by kernel_rfl) (fun _ _ _ h => h) (Or.inl ⟨by rfl, ?_⟩) ?_ ?_
               rotate_left
               ·intro w'
                go_simp
                with_reducible rfl
               rotate_left
               ·simp only [Act.put, List.setIfInBounds_toArray, List.set_cons_zero, List.set_cons_succ, i64_w, i32_w]
                rfl
               refine pure_ (i := 2) (N := some 63) (v := ?_) (a' := ?_) #[true, true, true, false, false, false, false, false, false, false] rfl rfl (by kernel_rfl) (fun _ _ _ h => h) (Or.inl ⟨by rfl, ?_⟩) ?_ ?_
               rotate_left
               ·intro w'
                go_simp
                with_reducible rfl
               rotate_left
               ·simp only [Act.put, List.setIfInBounds_toArray, List.set_cons_zero, List.set_cons_succ, i64_w, i32_w]
                rfl
               refine pure_ (i := 4) (N := some 65) (v := ?_) (a' := ?_) #[true, true, true, false, true, false, false, false, false, false] rfl rfl (by kernel_rfl) (fun _ _ _ h => h) (Or.inl ⟨by rfl, ?_⟩) ?_ ?_
               rotate_left
               ·intro w'
                go_simp
                with_reducible rfl
               rotate_left
               ·simp only [Act.put, List.setIfInBounds_toArray, List.set_cons_zero, List.set_cons_succ, i64_w, i32_w]
                rfl
               refine pure_ (i := 5) (N := some 66) (v := ?_) (a' := ?_) #[true, true, true, false, true, true, false, false, false, false] rfl rfl (by kernel_rfl) (fun _ _ _ h => h) (Or.inl ⟨by rfl, ?_⟩) ?_ ?_
               rotate_left
               ·intro w'
                go_simp
                with_reducible rfl
               rotate_left
               ·simp only [Act.put, List.setIfInBounds_toArray, List.set_cons_zero, List.set_cons_succ, i64_w, i32_w]
                rfl
               refine take_ (i := 3) (N := some 64) (v := ?_) (a' := ?_) #[true, true, true, true, true, true, false, false, false, false] rfl rfl (by kernel_rfl) (fun _ _ _ h => h) (Or.inl ⟨by rfl, ?_⟩) hHeld ?_ ?_
               rotate_left
               ·rintro w' ⟨s0, s1, s2⟩
                go_simp
                with_reducible rfl
               rotate_left
               ·simp only [Act.put, List.setIfInBounds_toArray, List.set_cons_zero, List.set_cons_succ, i64_w, i32_w]
                rfl
               refine take_ (i := 6) (N := some 67) (v := ?_) (a' := ?_) #[true, true, true, true, true, true, true, false, false, false] rfl rfl (by kernel_rfl) (fun _ _ _ h => h) (Or.inl ⟨by rfl, ?_⟩) hHeld ?_ ?_
               rotate_left
               ·rintro w' ⟨s0, s1, s2⟩
                go_simp
                with_reducible rfl
               rotate_left
               ·simp only [Act.put, List.setIfInBounds_toArray, List.set_cons_zero, List.set_cons_succ, i64_w, i32_w]
                rfl
               refine pure_ (i := 7) (N := some 68) (v := ?_) (a' := ?_) #[true, true, true, true, true, true, true, true, false, false] rfl rfl (by kernel_rfl) (fun _ _ _ h => h) (Or.inl ⟨by rfl, ?_⟩) ?_ ?_
               rotate_left
               ·intro w'
                go_simp
                with_reducible rfl
               rotate_left
               ·simp only [Act.put, List.setIfInBounds_toArray, List.set_cons_zero, List.set_cons_succ, i64_w, i32_w]
                rfl
               refine take_ (i := 8) (N := some 69) (v := ?_) (a' := ?_) #[true, true, true, true, true, true, true, true, true, false] rfl rfl (by kernel_rfl) (fun _ _ _ h => h) (Or.inl ⟨by rfl, ?_⟩) hHeld ?_ ?_
               rotate_left
               ·rintro w' ⟨s0, s1, s2⟩
                go_simp
                with_reducible rfl
               rotate_left
               ·simp only [Act.put, List.setIfInBounds_toArray, List.set_cons_zero, List.set_cons_succ, i64_w, i32_w]
                rfl
               refine last_ (i := 9) (N := some 70) #[true, true, true, true, true, true, true, true, true, true] rfl rfl (by kernel_rfl) (by decide) (fun K hK => ?_)
               refine goes_ Try.func41 (by kernel_rfl) rfl #[.slice A5 (rd_L1 x (an : Int)).length c5, .slice (some ad6) (rd_L1 x i).length c6, .int .u8 (rd (rd_L1 x i) c)] (by rfl) rfl rfl (by simp only [List.map_toArray, List.map_cons, List.map_nil]; rfl) ?_
               with_reducible refine (linear_take.calls k1 A5 c5 _ oki _ (rd_L1 x i) _ y w0 _ (below_drew1 HB.out) (fun W1 hk => HC5.out W1 (Kept.then_ (Kept.drew (Kept.refl wr oki)) hk (fun _ h => .inl h))) HL5.out (Kd.R_drew HR6.out) HT.out).mono ?_
               rintro e w9 ⟨rfl, ho9, hb9, hk9⟩
               refine ⟨_, rfl, ?_⟩
               have HO9 := Aside0.mk ho9
               have HB9 := Aside0.mk hb9
               have HK9 := Aside0.mk hk9
               clear ho9 hb9 hk9
               refine hK.out _ _ ?_
               clear hK K
               refine norm_ (a' := ?_) ?_ ?_
               rotate_left
               ·show Act.put _ (some 70) _ = _
                simp only [Act.put, List.setIfInBounds_toArray, List.set_cons_zero, List.set_cons_succ, i64_w, i32_w]
                rfl
               refine done_ (by kernel_rfl) ?_
               have HS9 := Aside0.mk (HBK.out _ y HK9.out HO9.out)
               have HKN := Aside0.mk (Kept.then_ HK.out (show Kept wr w9 oki from HK9.out) (fun k hk => by
                by_cases hkw : k < w.heap.size
                ·left
                 by_cases hp : w0.heap.size ≤ k ∧ MatBlk w k
                 ·exact hp
                 ·exfalso
                  obtain ⟨⟨_, hb1, _, q, hq, cells, hcell⟩, _⟩ := HOK.out k hk
                  have := HK.out.2 k hkw hp
                  refine hp ⟨hb1, q, ?_, cells, this.symm.trans hcell⟩
                  simp [Kd.int, Kd.scalar] at hq
                  exact hq
                ·right; omega))
               have HXN := Aside0.mk (show w9.cell? ⟨w.heap.size, 0, none⟩ = some (.int .i64 c) from by
                have hlt := World.block_lt_of_cell? _ _ hz3
                refine Eq.trans ?_ hz3
                exact World.cell?_of_block (HK9.out.2 _ hlt (fun hk => (HOK.out _ hk).1.1 rfl)))
               go_wp2
               go_roundg k1
               case measure => have := HK1.out; omega
               case rel => exact ⟨_, _, (by first | rfl | (simp; done) | (simp [*]; done)), H', ⟨by have := HK1.out; omega⟩, HS9, HB9, HKN, HXN⟩
              ·rw [if_neg t7] at H; exact absurd H (by simp)
             ·rw [if_neg t6] at H; exact absurd H (by simp)
           ·rw [if_pos r1, if_neg t4] at H; exact absurd H (by simp)
          ·rw [if_neg t3] at H; exact absurd H (by simp)
         ·rw [if_neg t2] at H; exact absurd H (by simp)
        ·rw [if_neg t1] at H
         have t1b : decide (i < (l.length : Int)) = false := decide_eq_false t1
         obtain rfl := Option.some.inj H
         clear H hxl
         go_wp2
         go_ret
         exact ⟨rfl, Kd.S_mono HS.out (fun _ _ => trivial), HB.out, HK.out⟩
    ·rw [if_neg p4] at h; exact absurd h (by simp)
   ·rw [if_neg p3] at h; exact absurd h (by simp)
  ·rw [if_neg p2] at h; exact absurd h (by simp)
 ·rw [if_neg p1] at h; exact absurd h (by simp)
theorem linear_pivot.mono_l : ∀ k, ∀ y0 y1 y2 y3 y4, LeO (linear_pivot.l0 k y0 y1 y2 y3 y4) (linear_pivot.l0 (k + 1) y0 y1 y2 y3 y4)
 | 0 => fun _ _ _ _ _ r h => by simp [linear_pivot.l0] at h
 | k + 1 => by
  have ih0 := linear_pivot.mono_l k
  intro y0 y1 y2 y3 y4
  unfold linear_pivot.l0
  repeat' first
   | (with_reducible exact ih0 _ _ _ _ _)
   | (with_reducible exact linear_take.mono _ _ _ _)
   | (with_reducible exact LeO.refl _)
   | (with_reducible exact LeO.none _)
   | (with_reducible refine LeO.ite ?_ ?_)
   | (with_reducible refine LeO.bind ?_ (fun _ => ?_))
theorem linear_pivot.mono : ∀ a0 a1 a2 k, LeO (linear_pivot.f k a0 a1 a2) (linear_pivot.f (k + 1) a0 a1 a2) := by
 intro a0 a1 a2 k
 unfold linear_pivot.f
 repeat' first
  | (with_reducible exact linear_pivot.mono_l _ _ _ _ _ _)
  | (with_reducible exact gf_Inv.mono _ _)
  | (with_reducible exact gf_Scale.mono _ _ _)
  | (with_reducible exact LeO.refl _)
  | (with_reducible exact LeO.none _)
  | (with_reducible refine LeO.ite ?_ ?_)
  | (with_reducible refine LeO.bind ?_ (fun _ => ?_))
attribute [local go_sem] max2_int min2_int max_two min_two
def linear_Reduce.l0 : Nat → Int → List (List Int) → List Int → Int → Int → Option (List (List Int) × List Int)
 | 0, _, _, _, _, _ => none
 | k + 1, n, x, ps, b, c => if c < b then (if (ps.length : Int) < n then ((linear_pivot.f k x (ps.length : Int) c).bind fun r => if r.2 = true then (if ps.length < 17592186044416 then (linear_Reduce.l0 k n r.1 (ps ++ [c]) b (wrap64 (c + 1))) else none) else (linear_Reduce.l0 k n r.1 ps b (wrap64 (c + 1)))) else (linear_Reduce.l0 k n x ps b (wrap64 (c + 1)))) else some (x, ps)
def linear_Reduce.f (k : Nat) (l0 : List (List Int)) (a1 : Int) : Option (List (List Int) × List Int) :=
 (linear_Right.f l0).bind fun t => if t = true then ((linear_clone.f k l0).bind fun x => (linear_width.f l0).bind fun wd => linear_Reduce.l0 k (l0.length : Int) x [] (mn (mx a1 0) wd) 0) else some ([], [])
theorem linear_pivot.kept {base B : Nat} {ok : Nat → Prop} {w1 w2 : World} {v : Value} {ps : List Int} (h : Kd.R (Kd.int .i64) 3 w1 base ok v ps) (hk : Kept w1 w2 (fun k => B ≤ k ∧ MatBlk w1 k)) : Kd.R (Kd.int .i64) 3 w2 base ok v ps := by
 refine Kd.R_mono (Kd.R_step (Kd.R_tight2 rfl h) (fun k hk1 hlt => hk.2 k hlt (fun hm => ?_))) (fun k hk => hk.2)
 obtain ⟨_, q, hq, cells, hc⟩ := hm
 obtain ⟨cells', hc'⟩ := Kd.R_typed h k hk1.1.symm
 rw [hc] at hc'
 rcases hq with rfl | rfl <;> simp at hc'
set_option maxHeartbeats 8000000 in
set_option maxRecDepth 100000 in
theorem linear_Reduce.calls (k : Nat) (A0 : Option Addr) (c0 : Nat) (l0 : List (List Int)) (a1 : Int) (r1 : List (List Int)) (r2 : List Int) (w : World) (hr0 : Kd.C (Kd.slice 5 (Kd.int .u8)) w A0 l0.length l0) (hc0 : l0.length ≤ c0) (h : linear_Reduce.f k l0 a1 = some (r1, r2)) :
 Calls Try.prog 11 #[.slice A0 l0.length c0, .int .i64 a1] w fun e w' => ∃ v0_ v1_ : Value, e = .returned (.tuple #[v0_, v1_]) ∧ Kd.S (Kd.slice 5 (Kd.int .u8)) 23 w' w.heap.size (fun _ => True) v0_ r1 ∧ Kd.R (Kd.int .i64) 3 w' w.heap.size (fun _ => True) v1_ r2 ∧ Below w.heap.size w w' := by
 have HR0 := Aside0.mk hr0
 have HC0 := Aside0.mk hc0
 clear hr0 hc0
 have HB := Aside0.mk (Below.refl w.heap.size w)
 unfold linear_Reduce.f at h
 replace h := Option.bind_eq_some_iff.mp h
 obtain ⟨t, ht, h⟩ := h
 have HT := Aside0.mk ht
 clear ht
 by_cases c1 : t = true
 ·rw [if_pos c1] at h
  subst c1
  replace h := Option.bind_eq_some_iff.mp h
  obtain ⟨x, hx, h⟩ := h
  replace h := Option.bind_eq_some_iff.mp h
  obtain ⟨wd, hwd, h⟩ := h
  have HX := Aside0.mk hx
  have HW := Aside0.mk hwd
  obtain ⟨m1, hm1⟩ : ∃ m, (if a1 < 0 then 0 else a1) = m := ⟨_, rfl⟩
  obtain ⟨b, hbb⟩ : ∃ b, (if wd < m1 then wd else m1) = b := ⟨_, rfl⟩
  rw [show mn (mx a1 0) wd = b from by unfold mx mn; rw [hm1, hbb]] at h
  have H' := Aside0.mk h
  clear hx hwd h
  go_enter Try.func11, Try.ntmps11
  go_wp2_with (first
   | (go_at_call 13; (with_reducible refine (linear_Right.calls _ _ l0 true _ ?side1 HC0.out HT.out).mono ?_); (case side1 => exact HR0.out); rintro e w1 ⟨rfl, hb⟩; have HB1 := Aside0.mk hb; clear hb)
   | (go_at_call 24; (with_reducible refine (linear_clone.calls k _ _ l0 x _ ?side1 HC0.out HX.out).mono ?_); (case side1 => exact Kd.C_below HR0.out HB1.out); rintro e w2 ⟨v0, rfl, ho, hb⟩; have HO2 := Aside0.mk ho; have HB2 := Aside0.mk hb; clear ho hb)
   | (go_at_call 25; (with_reducible refine (linear_width.calls _ _ l0 wd _ ?side1 HC0.out HW.out).mono ?_); (case side1 => exact Kd.C_below (Kd.C_below HR0.out HB1.out) HB2.out); rintro e w3 ⟨rfl, ⟨n3, rfl⟩⟩))
  go_loopg [5, 17] k (fun kq v5 v17 w' => ∃ (y : List (List Int)) (ps : List Int) (c : Int), v17 = .int .i64 c ∧ Aside0 (linear_Reduce.l0 kq (l0.length : Int) y ps b c = some (r1, r2)) ∧ Aside0 (kq ≤ k) ∧ Aside0 (Kd.S (Kd.slice 5 (Kd.int .u8)) 23 w' w.heap.size (fun _ => True) v0 y) ∧ Aside0 (Kd.R (Kd.int .i64) 3 w' w.heap.size (fun _ => True) v5 ps) ∧ Aside0 (Below w.heap.size w w'))
  case atStart => exact ⟨x, [], 0, rfl, H', ⟨Nat.le_refl _⟩, ⟨Kd.S_drewN (Kd.S_lower HO2.out HB1.out.size) n3⟩, ⟨Kd.R_nil _ _ _ _ _⟩, ⟨pw_below_drewN (below_step (below_step HB.out HB1.out) HB2.out) n3⟩⟩
  case round =>
   clear H' HB HB1 HB2 HO2 HX HW HT
   obtain ⟨y, ps, c, rfl, HA, HK1, HS, HO, HB⟩ := hrel
   cases gk with
   | zero => exact absurd HA.out (by simp [linear_Reduce.l0])
   | succ k1 =>
    have H := HA.out
    clear HA
    simp only [linear_Reduce.l0] at H
    obtain ⟨Ap, cp, ep⟩ := Kd.R_slice HO.out
    subst ep
    by_cases t1 : c < b
    ·rw [if_pos t1] at H
     have t1b : decide (c < b) = true := decide_eq_true t1
     clear t1
     by_cases t2 : (ps.length : Int) < (l0.length : Int)
     ·rw [if_pos t2] at H
      have t2b : decide ((ps.length : Int) < (l0.length : Int)) = true := decide_eq_true t2
      have t2c : decide (ps.length < l0.length) = true := decide_eq_true (by omega)
      clear t2
      replace H := Option.bind_eq_some_iff.mp H
      obtain ⟨⟨q1, q2⟩, hp, H⟩ := H
      have HP := Aside0.mk hp
      clear hp
      simp only at H
      cases q2 with
      | true =>
       rw [if_pos rfl] at H
       by_cases t3 : ps.length < 17592186044416
       ·rw [if_pos t3] at H
        have H' := Aside0.mk H
        have HL := Aside0.mk t3
        clear H t3
        go_wp2_with (first
         | (go_at_call 26; (with_reducible refine (linear_pivot.calls k1 v0 y (ps.length : Int) c q1 true w _ HB.out HS.out HP.out).mono ?_); rintro e w4 ⟨rfl, hs, hb, hk⟩; have HS4 := Aside0.mk hs; have HB4 := Aside0.mk hb; have HO4 := Aside0.mk (linear_pivot.kept HO.out hk); clear hs hb hk)
         | ((with_reducible refine gate_builtin (b := .append) (xs := #[.tmp 32, .tmp 34]) rfl ?_); at_builtin; refine Kd.R_append (Kd.int .i64) (w0 := w) w.heap.size rfl (.tmp 32) (.tmp 34) 26 3 (.int .i64 0) 8 rfl Try.underlying26 info3 rfl (by decide) (by omega) (.slice Ap ps.length cp) ps c [.int .i64 c] (fun _ => True) (fun _ => False) rfl rfl ?aP (fun _ hk => hk.elim) ?aF ?aO ?aB ?aS ?aL ?_; (case aP => exact rfl); (case aB => exact HB4.out); (case aF => exact (fun _ _ => trivial)); (case aO => exact HO4.out); (case aS => exact below_size HB4.out); (case aL => have := HL.out; omega); intro v5 w5 ho hb hg hat; have HS5 := Aside0.mk (Kd.S_over' HS4.out (Kd.R_typed HO4.out) (by decide) hg); have HB5 := Aside0.mk hb; have HO5 := Aside0.mk ho; clear ho hb hg hat))
        go_roundg k1
        case measure => have := HK1.out; omega
        case rel => exact ⟨q1, ps ++ [c], _, rfl, H', ⟨by have := HK1.out; omega⟩, HS5, HO5, HB5⟩
       ·rw [if_neg t3] at H; exact absurd H (by simp)
      | false =>
       rw [if_neg (by decide)] at H
       have H' := Aside0.mk H
       clear H
       go_wp2_with (first
        | (go_at_call 26; (with_reducible refine (linear_pivot.calls k1 v0 y (ps.length : Int) c q1 false w _ HB.out HS.out HP.out).mono ?_); rintro e w4 ⟨rfl, hs, hb, hk⟩; have HS4 := Aside0.mk hs; have HB4 := Aside0.mk hb; have HO4 := Aside0.mk (linear_pivot.kept HO.out hk); clear hs hb hk))
       go_roundg k1
       case measure => have := HK1.out; omega
       case rel => exact ⟨q1, ps, _, rfl, H', ⟨by have := HK1.out; omega⟩, HS4, HO4, HB4⟩
     ·rw [if_neg t2] at H
      have t2b : decide ((ps.length : Int) < (l0.length : Int)) = false := decide_eq_false t2
      have t2c : decide (ps.length < l0.length) = false := decide_eq_false (by omega)
      have H' := Aside0.mk H
      clear H t2
      go_wp2
      go_roundg k1
      case measure => have := HK1.out; omega
      case rel => exact ⟨y, ps, _, rfl, H', ⟨by have := HK1.out; omega⟩, HS, HO, HB⟩
    ·rw [if_neg t1] at H
     have t1b : decide (c < b) = false := decide_eq_false t1
     clear t1
     obtain ⟨rfl, rfl⟩ := Prod.mk.inj (Option.some.inj H)
     clear H
     go_wp2
     go_ret2
     exact ⟨_, _, rfl, HS.out, HO.out, HB.out⟩
 ·rw [if_neg c1] at h
  obtain ⟨rfl, rfl⟩ := Prod.mk.inj (Option.some.inj h)
  have hf : t = false := by simpa using c1
  subst hf
  go_enter Try.func11, Try.ntmps11
  go_wp2_with (first | (go_at_call 13; (with_reducible refine (linear_Right.calls _ _ l0 false _ ?side1 HC0.out HT.out).mono ?_); (case side1 => exact HR0.out); rintro e w1 ⟨rfl, hb⟩; have HB1 := Aside0.mk hb; clear hb))
  go_ret2
  exact ⟨_, _, rfl, ⟨fun _ => 0, Kd.R_nil _ _ _ _ _⟩, Kd.R_nil _ _ _ _ _, HB1.out⟩
theorem linear_Reduce.mono_l : ∀ k, ∀ y0 y1 y2 y3 y4, LeO (linear_Reduce.l0 k y0 y1 y2 y3 y4) (linear_Reduce.l0 (k + 1) y0 y1 y2 y3 y4)
 | 0 => fun _ _ _ _ _ r h => by simp [linear_Reduce.l0] at h
 | k + 1 => by
  have ih0 := linear_Reduce.mono_l k
  intro y0 y1 y2 y3 y4
  unfold linear_Reduce.l0
  repeat' first
   | (with_reducible exact ih0 _ _ _ _ _)
   | (with_reducible exact linear_pivot.mono _ _ _ _)
   | (with_reducible exact LeO.refl _)
   | (with_reducible exact LeO.none _)
   | (with_reducible refine LeO.ite ?_ ?_)
   | (with_reducible refine LeO.bind ?_ (fun _ => ?_))
theorem linear_Reduce.mono : ∀ a0 a1 k, LeO (linear_Reduce.f k a0 a1) (linear_Reduce.f (k + 1) a0 a1) := by
 intro a0 a1 k
 unfold linear_Reduce.f
 repeat' first
  | (with_reducible exact linear_Reduce.mono_l _ _ _ _ _ _)
  | (with_reducible exact linear_clone.mono _ _)
  | (with_reducible exact LeO.refl _)
  | (with_reducible exact LeO.none _)
  | (with_reducible refine LeO.ite ?_ ?_)
  | (with_reducible refine LeO.bind ?_ (fun _ => ?_))
def linear_Rank.f (k : Nat) (l0 : List (List Int)) : Option (Int) := (linear_width.f l0).bind fun t125 => ((linear_Reduce.f k l0 t125).bind fun bt126 => (some (bt126.2.length : Int)))
theorem linear_Rank.mono : ∀ a0 k, LeO (linear_Rank.f k a0) (linear_Rank.f (k + 1) a0) := by
 intro a0 k
 unfold linear_Rank.f
 repeat' first
  | (with_reducible exact linear_Reduce.mono _ _ _)
  | (with_reducible exact LeO.refl _)
  | (with_reducible exact LeO.none _)
  | (with_reducible refine LeO.ite ?_ ?_)
  | (with_reducible refine LeO.bind ?_ (fun _ => ?_))
  | exact linear_Reduce.mono _ _ _
  | exact LeO.none _
  | refine LeO.ite ?_ ?_
  | refine LeO.bind ?_ (fun _ => ?_)
set_option maxHeartbeats 8000000 in
set_option maxRecDepth 100000 in
theorem linear_Rank.calls (k : Nat) (A0 : Option Addr) (c0 : Nat) (l0 : List (List Int)) (r : Int) (w : World) (hr0 : Kd.C (Kd.slice 5 (Kd.int .u8)) w A0 l0.length l0) (hc0 : l0.length ≤ c0) (h : linear_Rank.f k l0 = some r) :
 Calls Try.prog 17 #[.slice A0 l0.length c0] w fun e w' => e = .returned (.int .i64 r) ∧ Below w.heap.size w w' := by
 have HR0 := Aside0.mk hr0
 have HC0 := Aside0.mk hc0
 clear hr0 hc0
 have HB := Aside0.mk (Below.refl w.heap.size w)
 have H : ((linear_width.f l0).bind fun t125 => ((linear_Reduce.f k l0 t125).bind fun bt126 => (some (bt126.2.length : Int)))) = some r := h
 clear h
 replace H := Option.bind_eq_some_iff.mp H
 obtain ⟨t125, A20, H⟩ := H
 replace H : ((linear_Reduce.f k l0 t125).bind fun bt126 => (some (bt126.2.length : Int))) = some r := H
 have A2 := Aside0.mk A20
 clear A20
 replace H := Option.bind_eq_some_iff.mp H
 obtain ⟨⟨t126, t127⟩, A30, H⟩ := H
 replace H : (some (t127.length : Int)) = some r := H
 have A3 := Aside0.mk A30
 clear A30
 obtain rfl := Option.some.inj H
 go_enter Try.func17, Try.ntmps17
 go_wp2_with (first | ((with_reducible refine gate_callee (f := 25) rfl ?_); refine goesL_ (some 8) rfl rfl Try.func25 (by kernel_rfl) rfl #[.slice A0 l0.length c0] rfl (by (try simp only [List.map_toArray, List.map_cons, List.map_nil]); first | done | rfl | (simp only [List.length_drop, List.length_take]; rfl)) ?_; (with_reducible refine (linear_width.calls _ _ l0 t125 _ ?side1 ?side2 A2.out).mono ?_); (case side1 => repeat (first | exact HR0.out | (with_reducible refine Kd.C_alloc ?_ _) | (with_reducible refine Kd.C_drewN ?_ _) | (with_reducible refine Kd.C_drew ?_))); (case side2 => exact HC0.out); rintro e w' ⟨rfl, ⟨nd, rfl⟩⟩; refine ⟨_, rfl, ?_⟩) | ((with_reducible refine gate_callee (f := 11) rfl ?_); refine goesL_ (some 9) rfl rfl Try.func11 (by kernel_rfl) rfl #[.slice A0 l0.length c0, .int .i64 t125] rfl (by (try simp only [List.map_toArray, List.map_cons, List.map_nil]); first | done | rfl | (simp only [List.length_drop, List.length_take]; rfl)) ?_; (with_reducible refine (linear_Reduce.calls k _ _ l0 t125 t126 t127 _ ?side1 ?side2 A3.out).mono ?_); (case side1 => repeat (first | exact HR0.out | (with_reducible refine Kd.C_alloc ?_ _) | (with_reducible refine Kd.C_drewN ?_ _) | (with_reducible refine Kd.C_drew ?_))); (case side2 => exact HC0.out); rintro e w4 ⟨v128, v130, rfl, ho0, ho1, hb⟩; refine ⟨_, rfl, ?_⟩; have n0_ := Aside0.mk (Kd.S_lower ho0 (below_size (by repeat (first | (with_reducible first | exact HB.out | apply below_alloc | apply pw_below_drewN | apply below_drew1) | exact HB.out)))); have n1_ := Aside0.mk (Kd.R_lower ho1 (below_size (by repeat (first | (with_reducible first | exact HB.out | apply below_alloc | apply pw_below_drewN | apply below_drew1) | exact HB.out)))); have n2_ := Aside0.mk (below_step (by repeat (first | (with_reducible first | exact HB.out | apply below_alloc | apply pw_below_drewN | apply below_drew1) | exact HB.out)) hb); clear HB; have HO129 := n0_; have HO131 := n1_; have HB := n2_; clear n0_ n1_ n2_; (try clear hb); (try clear hb2); (try clear hk); (try clear hi); (try clear ho0); (try clear ho1); obtain ⟨Ao5, co5, eo5⟩ := Kd.R_slice HO131.out; subst eo5))
 go_ret
 exact ⟨by first | rfl | (simp [errW_none, errW_some] <;> rfl) | (simp [*, errW_none, errW_some] <;> rfl), by repeat (first | (with_reducible first | exact HB.out | apply below_alloc | apply pw_below_drewN | apply below_drew1) | exact HB.out)⟩
end Go.Proofs.Ytanknpdibjfmlaa.P
namespace Go.Proofs.Ytanknpdibjfmlaa.P
open Go.RowKit Go.Proofs.YtanknpdibjfmlaaW.PrintWords Go.Proofs.YtanknpdibjfmlaaW.PrintLast Go.Proofs.YtanknpdibjfmlaaW.PrintMore
attribute [local go_sem] max2_int min2_int max_two min_two max_three min_three max_four min_four
set_option linter.unusedVariables false
set_option linter.unusedSimpArgs false
def gf_Dot.l0 : Nat → List Int → List Int → Int → Int → Int → Option (Int)
 | 0, _, _, _, _, _ => none
 | k + 1, x0, x1, x5, x11, x12 => if x12 < x11 then (if 0 ≤ x12 then (if x12 < (x0.length : Int) then (if x12 < (x1.length : Int) then ((gf_Mul.f k (rd x0 x12) (rd x1 x12)).bind fun t134 => (gf_Dot.l0 k x0 x1 (Go.bits .xor .u8 x5 t134) x11 (wrap64 (x12 + 1)))) else (none)) else (none)) else (none)) else (some x5)
def gf_Dot.f (k : Nat) (l0 : List Int) (l1 : List Int) : Option (Int) := gf_Dot.l0 k l0 l1 0 (mn (l0.length : Int) (l1.length : Int)) 0
theorem gf_Dot.mono_l : ∀ k, (∀ y0 y1 y2 y3 y4, LeO (gf_Dot.l0 k y0 y1 y2 y3 y4) (gf_Dot.l0 (k + 1) y0 y1 y2 y3 y4))
 | 0 => fun _ _ _ _ _ r h => by simp [gf_Dot.l0] at h
 | k + 1 => by
  have ih0 := gf_Dot.mono_l k
  ·intro y0 y1 y2 y3 y4
   unfold gf_Dot.l0
   repeat' first
   | (with_reducible exact ih0 _ _ _ _ _)
   | (with_reducible exact gf_Mul.mono _ _ _)
   | (with_reducible exact LeO.refl _)
   | (with_reducible exact LeO.none _)
   | (with_reducible refine LeO.ite ?_ ?_)
   | (with_reducible refine LeO.bind ?_ (fun _ => ?_))
   | exact ih0 _ _ _ _ _
   | exact gf_Mul.mono _ _ _
   | exact LeO.none _
   | refine LeO.ite ?_ ?_
   | refine LeO.bind ?_ (fun _ => ?_)
theorem gf_Dot.mono : ∀ a0 a1 k, LeO (gf_Dot.f k a0 a1) (gf_Dot.f (k + 1) a0 a1) := by
 intro a0 a1 k
 have ih0 := gf_Dot.mono_l k
 unfold gf_Dot.f
 repeat' first
  | (with_reducible exact ih0 _ _ _ _ _)
  | (with_reducible exact gf_Mul.mono _ _ _)
  | (with_reducible exact LeO.refl _)
  | (with_reducible exact LeO.none _)
  | (with_reducible refine LeO.ite ?_ ?_)
  | (with_reducible refine LeO.bind ?_ (fun _ => ?_))
  | exact ih0 _ _ _ _ _
  | exact gf_Mul.mono _ _ _
  | exact LeO.none _
  | refine LeO.ite ?_ ?_
  | refine LeO.bind ?_ (fun _ => ?_)
set_option maxHeartbeats 8000000 in
set_option maxRecDepth 100000 in
theorem gf_Dot.calls (k : Nat) (A0 : Option Addr) (c0 : Nat) (l0 : List Int) (A1 : Option Addr) (c1 : Nat) (l1 : List Int) (r : Int) (w : World) (hr0 : Kd.C (Kd.int .u8) w A0 l0.length l0) (hc0 : l0.length ≤ c0) (hr1 : Kd.C (Kd.int .u8) w A1 l1.length l1) (hc1 : l1.length ≤ c1) (h : gf_Dot.f k l0 l1 = some r) :
 Calls Try.prog 32 #[.slice A0 l0.length c0, .slice A1 l1.length c1] w fun e w' => e = .returned (.int .u8 r) ∧ Below w.heap.size w w' := by
 have HR0 := Aside0.mk hr0
 have HC0 := Aside0.mk hc0
 clear hr0 hc0
 have HR1 := Aside0.mk hr1
 have HC1 := Aside0.mk hc1
 clear hr1 hc1
 have HB := Aside0.mk (Below.refl w.heap.size w)
 have H : (gf_Dot.l0 k l0 l1 0 (mn (l0.length : Int) (l1.length : Int)) 0) = some r := h
 clear h
 obtain ⟨ji3, hji3⟩ : ∃ j_ : Int, (mn (l0.length : Int) (l1.length : Int)) = j_ := ⟨_, rfl⟩
 replace H : (gf_Dot.l0 k l0 l1 0 ji3 0) = some r := by first | (rw [hji3] at H; exact H) | (simp only [hji3] at H ⊢; exact H)
 (try (have hji3l : 0 ≤ ji3 := by (rw [← hji3]; unfold mn; (repeat' split) <;> omega)))
 (try (have hji3m : 0 ≤ ji3 := by omega))
 have hji3_ : (if (l1.length : Int) < (l0.length : Int) then (l1.length : Int) else (l0.length : Int)) = ji3 := hji3
 have hji3n : (if l1.length < l0.length then (l1.length : Int) else (l0.length : Int)) = ji3 := by first | (rw [← hji3_]; split <;> split <;> omega) | (simpa using hji3_)
 have H' := Aside0.mk H
 clear H
 go_enter Try.func32, Try.ntmps32
 go_wp2
 repeat (go_quiet (fail); try go_wp2)
 go_loopg [5, 12] k (fun kq v5 v12 w' => ∃ (x5_1 : Int) (x12_1 : Int), v5 = .int .u8 x5_1 ∧ v12 = .int .i64 x12_1 ∧ Aside0 (gf_Dot.l0 kq l0 l1 x5_1 ji3 x12_1 = some r) ∧ Aside0 (kq ≤ k) ∧ Aside0 (Below w.heap.size w w'))
 case atStart => exact ⟨(0), (0), (by first | rfl | (simp; done) | (simp [*]; done)), (by first | rfl | (simp; done) | (simp [*]; done)), H', ⟨Nat.le_refl _⟩, ⟨by repeat (first | (with_reducible first | exact HB.out | apply below_alloc | apply pw_below_drewN | apply below_drew1) | exact HB.out)⟩⟩
 case round =>
  clear H'
  try clear c1
  try clear p2
  try clear c3
  obtain ⟨x5_1, x12_1, rfl, rfl, HA, HK1, HB⟩ := hrel
  cases gk with
  | zero => exact absurd HA.out (by simp [gf_Dot.l0])
  | succ k1 =>
   have H := HA.out
   clear HA
   simp only [gf_Dot.l0] at H
   by_cases c4 : x12_1 < ji3
   ·rw [if_pos c4] at H
    have c4b0 : decide (x12_1 < ji3) = true := decide_eq_true c4
    clear c4
    by_cases c5 : 0 ≤ x12_1
    ·rw [if_pos c5] at H
     have c5b0 : decide (0 ≤ x12_1) = true := decide_eq_true c5
     clear c5
     by_cases c6 : x12_1 < (l0.length : Int)
     ·rw [if_pos c6] at H
      have c6b0 : decide (x12_1 < (l0.length : Int)) = true := decide_eq_true c6
      clear c6
      by_cases c7 : x12_1 < (l1.length : Int)
      ·rw [if_pos c7] at H
       have c7b0 : decide (x12_1 < (l1.length : Int)) = true := decide_eq_true c7
       clear c7
       replace H := Option.bind_eq_some_iff.mp H
       obtain ⟨t134, A80, H⟩ := H
       replace H : (gf_Dot.l0 k1 l0 l1 (Go.bits .xor .u8 x5_1 t134) ji3 (wrap64 (x12_1 + 1))) = some r := H
       have A8 := Aside0.mk A80
       clear A80
       have H' := Aside0.mk H
       clear H
       have p132 : 0 ≤ (x12_1 : Int) := of_decide_eq_true (by first | (with_reducible assumption) | assumption)
       have q132 : x12_1 < (l0.length : Int) := of_decide_eq_true (by first | (with_reducible assumption) | assumption)
       obtain ⟨ad132, e132, hx132_0⟩ := Kd.at_int HR0.out x12_1 p132 q132
       cases e132
       replace hx132_0 := (HB.out.cell (World.block_lt_of_cell? w _ hx132_0)).trans hx132_0
       replace p132 := eq_true p132
       replace q132 := eq_true q132
       have p133 : 0 ≤ (x12_1 : Int) := of_decide_eq_true (by first | (with_reducible assumption) | assumption)
       have q133 : x12_1 < (l1.length : Int) := of_decide_eq_true (by first | (with_reducible assumption) | assumption)
       obtain ⟨ad133, e133, hx133_0⟩ := Kd.at_int HR1.out x12_1 p133 q133
       cases e133
       replace hx133_0 := (HB.out.cell (World.block_lt_of_cell? w _ hx133_0)).trans hx133_0
       replace p133 := eq_true p133
       replace q133 := eq_true q133
       go_wp2_with (first | (go_at_call 42; (with_reducible refine (gf_Mul.calls k1 (rd l0 x12_1) (rd l1 x12_1) t134 _ A8.out).mono ?_); rintro e w' ⟨rfl, ⟨nd, rfl⟩⟩; (try first | exact ⟨rfl, _, World.drewN_drewN _ _ _⟩ | exact ⟨rfl, _, Eq.trans (World.drewN_drewN _ _ _) (congrArg (World.drewN _) (Nat.add_assoc _ _ _))⟩)))
       repeat (go_quiet (first | (go_at_call 42; (with_reducible refine (gf_Mul.calls k1 (rd l0 x12_1) (rd l1 x12_1) t134 _ A8.out).mono ?_); rintro e w' ⟨rfl, ⟨nd, rfl⟩⟩; (try first | exact ⟨rfl, _, World.drewN_drewN _ _ _⟩ | exact ⟨rfl, _, Eq.trans (World.drewN_drewN _ _ _) (congrArg (World.drewN _) (Nat.add_assoc _ _ _))⟩))); try go_wp2_with (first | (go_at_call 42; (with_reducible refine (gf_Mul.calls k1 (rd l0 x12_1) (rd l1 x12_1) t134 _ A8.out).mono ?_); rintro e w' ⟨rfl, ⟨nd, rfl⟩⟩; (try first | exact ⟨rfl, _, World.drewN_drewN _ _ _⟩ | exact ⟨rfl, _, Eq.trans (World.drewN_drewN _ _ _) (congrArg (World.drewN _) (Nat.add_assoc _ _ _))⟩))))
       go_roundg k1
       case measure => have := HK1.out; omega
       case rel => exact ⟨(Go.bits .xor .u8 x5_1 t134), (wrap64 (x12_1 + 1)), (by first | rfl | (simp; done) | (simp [*]; done)), (by first | rfl | (simp; done) | (simp [*]; done)), H', ⟨by have := HK1.out; omega⟩, ⟨by repeat (first | (with_reducible first | exact HB.out | apply below_alloc | apply pw_below_drewN | apply below_drew1) | exact HB.out)⟩⟩
      ·rw [if_neg c7] at H
       exact absurd H (by simp)
     ·rw [if_neg c6] at H
      exact absurd H (by simp)
    ·rw [if_neg c5] at H
     exact absurd H (by simp)
   ·rw [if_neg c4] at H
    have c4b0 : decide (x12_1 < ji3) = false := decide_eq_false c4
    clear c4
    obtain rfl := Option.some.inj H
    go_wp2
    repeat (go_quiet (fail); try go_wp2)
    go_ret
    exact ⟨by first | rfl | (simp [errW_none, errW_some] <;> rfl) | (simp only [← hji3]; first | rfl | (simp [errW_none, errW_some] <;> rfl)) | (simp [*, errW_none, errW_some] <;> rfl), by repeat (first | (with_reducible first | exact HB.out | apply below_alloc | apply pw_below_drewN | apply below_drew1) | exact HB.out)⟩
def linear_Times.l0 : Nat → List Int → List Int → List (List Int) → Int → Int → Option (List Int)
 | 0, _, _, _, _, _ => none
 | k + 1, x1, x5, x8, x9, x10 => if x10 < x9 then (if 0 ≤ x10 then (if x10 < (x8.length : Int) then ((gf_Dot.f k (rd_L1 x8 x10) x1).bind fun t136 => (if x5.length < 140737488355328 then (linear_Times.l0 k x1 (x5 ++ [t136]) x8 x9 (wrap64 (x10 + 1))) else (none))) else (none)) else (none)) else (some x5)
def linear_Times.f (k : Nat) (l0 : List (List Int)) (l1 : List Int) : Option (List Int) := linear_Times.l0 k l1 ([] : List Int) l0 (l0.length : Int) 0
theorem linear_Times.mono_l : ∀ k, (∀ y0 y1 y2 y3 y4, LeO (linear_Times.l0 k y0 y1 y2 y3 y4) (linear_Times.l0 (k + 1) y0 y1 y2 y3 y4))
 | 0 => fun _ _ _ _ _ r h => by simp [linear_Times.l0] at h
 | k + 1 => by
  have ih0 := linear_Times.mono_l k
  ·intro y0 y1 y2 y3 y4
   unfold linear_Times.l0
   repeat' first
   | (with_reducible exact ih0 _ _ _ _ _)
   | (with_reducible exact gf_Dot.mono _ _ _)
   | (with_reducible exact LeO.refl _)
   | (with_reducible exact LeO.none _)
   | (with_reducible refine LeO.ite ?_ ?_)
   | (with_reducible refine LeO.bind ?_ (fun _ => ?_))
   | exact ih0 _ _ _ _ _
   | exact gf_Dot.mono _ _ _
   | exact LeO.none _
   | refine LeO.ite ?_ ?_
   | refine LeO.bind ?_ (fun _ => ?_)
theorem linear_Times.mono : ∀ a0 a1 k, LeO (linear_Times.f k a0 a1) (linear_Times.f (k + 1) a0 a1) := by
 intro a0 a1 k
 have ih0 := linear_Times.mono_l k
 unfold linear_Times.f
 repeat' first
  | (with_reducible exact ih0 _ _ _ _ _)
  | (with_reducible exact gf_Dot.mono _ _ _)
  | (with_reducible exact LeO.refl _)
  | (with_reducible exact LeO.none _)
  | (with_reducible refine LeO.ite ?_ ?_)
  | (with_reducible refine LeO.bind ?_ (fun _ => ?_))
  | exact ih0 _ _ _ _ _
  | exact gf_Dot.mono _ _ _
  | exact LeO.none _
  | refine LeO.ite ?_ ?_
  | refine LeO.bind ?_ (fun _ => ?_)
set_option maxHeartbeats 8000000 in
set_option maxRecDepth 100000 in
theorem linear_Times.calls (k : Nat) (A0 : Option Addr) (c0 : Nat) (l0 : List (List Int)) (A1 : Option Addr) (c1 : Nat) (l1 : List Int) (r : List Int) (w : World) (hr0 : Kd.C (Kd.slice 5 (Kd.int .u8)) w A0 l0.length l0) (hc0 : l0.length ≤ c0) (hr1 : Kd.C (Kd.int .u8) w A1 l1.length l1) (hc1 : l1.length ≤ c1) (h : linear_Times.f k l0 l1 = some r) :
 Calls Try.prog 19 #[.slice A0 l0.length c0, .slice A1 l1.length c1] w fun e w' => ∃ v0_ : Value, e = .returned (v0_) ∧ Kd.R (Kd.int .u8) 5 w' w.heap.size (fun _ => True) v0_ r ∧ Below w.heap.size w w' := by
 have HR0 := Aside0.mk hr0
 have HC0 := Aside0.mk hc0
 clear hr0 hc0
 have HR1 := Aside0.mk hr1
 have HC1 := Aside0.mk hc1
 clear hr1 hc1
 have HB := Aside0.mk (Below.refl w.heap.size w)
 have H : (linear_Times.l0 k l1 ([] : List Int) l0 (l0.length : Int) 0) = some r := h
 clear h
 have H' := Aside0.mk H
 clear H
 go_enter Try.func19, Try.ntmps19
 go_wp2
 go_loopg [5, 10] k (fun kq v5 v10 w' => ∃ (x5_1 : List Int) (x10_1 : Int), v10 = .int .i64 x10_1 ∧ Aside0 (linear_Times.l0 kq l1 x5_1 l0 (l0.length : Int) x10_1 = some r) ∧ Aside0 (kq ≤ k) ∧ Aside0 (Kd.R (Kd.int .u8) 5 w' w.heap.size (fun _ => True) v5 x5_1) ∧ Aside0 (Below w.heap.size w w'))
 case atStart => exact ⟨(([] : List Int)), (0), (by first | rfl | (simp; done) | (simp [*]; done)), H', ⟨Nat.le_refl _⟩, ⟨by first | exact Kd.R_nil _ _ _ _ _ | exact Kd.N_nil _ _ _ _ _ | exact Kd.V_nil _ _ _ _ _ | exact Kd.Q_nil _ _ _ _ _ | exact Kd.S_nil _ _ _ _ _⟩, ⟨by repeat (first | (with_reducible first | exact HB.out | apply below_alloc | apply pw_below_drewN | apply below_drew1) | exact HB.out)⟩⟩
 case round =>
  clear H'
  try clear c1
  try clear p2
  obtain ⟨x5_1, x10_1, rfl, HA, HK1, HO_5, HB⟩ := hrel
  cases gk with
  | zero => exact absurd HA.out (by simp [linear_Times.l0])
  | succ k1 =>
   have H := HA.out
   clear HA
   simp only [linear_Times.l0] at H
   by_cases c3 : x10_1 < (l0.length : Int)
   ·rw [if_pos c3] at H
    have c3b0 : decide (x10_1 < (l0.length : Int)) = true := decide_eq_true c3
    clear c3
    by_cases c4 : 0 ≤ x10_1
    ·rw [if_pos c4] at H
     have c4b0 : decide (0 ≤ x10_1) = true := decide_eq_true c4
     clear c4
     by_cases c5 : x10_1 < (l0.length : Int)
     ·rw [if_pos c5] at H
      have c5b0 : decide (x10_1 < (l0.length : Int)) = true := decide_eq_true c5
      clear c5
      replace H := Option.bind_eq_some_iff.mp H
      obtain ⟨t136, A60, H⟩ := H
      replace H : (if x5_1.length < 140737488355328 then (linear_Times.l0 k1 l1 (x5_1 ++ [t136]) l0 (l0.length : Int) (wrap64 (x10_1 + 1))) else (none)) = some r := H
      have A6 := Aside0.mk A60
      clear A60
      by_cases c7 : x5_1.length < 140737488355328
      ·rw [if_pos c7] at H
       have LMc7 := Aside0.mk c7
       clear c7
       obtain ⟨y137, hy137⟩ : ∃ y_ : List Int, y_ = (x5_1 ++ [t136]) := ⟨_, rfl⟩
       replace H : (linear_Times.l0 k1 l1 y137 l0 (l0.length : Int) (wrap64 (x10_1 + 1))) = some r := by first | (rw [hy137]; with_reducible exact H) | (have H2_ := (Option.bind_some _ _).symm.trans H; rw [hy137]; with_reducible exact H2_) | (have H2_ := (Option.bind_some _ _).symm.trans H; with_reducible exact H2_) | with_reducible exact H | (rw [hy137]; exact H) | exact H
       have Ny137 := Aside0.mk hy137
       clear hy137
       have H' := Aside0.mk H
       clear H
       have p135 : 0 ≤ (x10_1 : Int) := of_decide_eq_true (by first | (with_reducible assumption) | assumption)
       have q135 : x10_1 < (l0.length : Int) := of_decide_eq_true (by first | (with_reducible assumption) | assumption)
       obtain ⟨ad135, A135_0, c135_0, e135, hx135_0, hl135_0, hi135_0⟩ := at_L1 HR0.out x10_1 p135 q135
       cases e135
       replace hx135_0 := (HB.out.cell (World.block_lt_of_cell? w _ hx135_0)).trans hx135_0
       have HR135_0 := Aside0.mk hi135_0
       have HC135_0 := Aside0.mk hl135_0
       clear hi135_0 hl135_0
       replace p135 := eq_true p135
       replace q135 := eq_true q135
       go_wp2_with (first | ((with_reducible refine gate_callee (f := 32) rfl ?_); refine goesL_ (some 17) rfl rfl Try.func32 (by kernel_rfl) rfl #[.slice A135_0 (rd_L1 l0 x10_1).length c135_0, .slice A1 l1.length c1] rfl (by (try simp only [List.map_toArray, List.map_cons, List.map_nil]); first | done | rfl | (simp only [List.length_drop, List.length_take]; rfl)) ?_; (with_reducible refine (gf_Dot.calls k1 _ _ (rd_L1 l0 x10_1) _ _ l1 t136 _ ?side1 ?side2 ?side3 ?side4 A6.out).mono ?_); (case side1 => repeat (first | exact (Kd.C_below HR135_0.out HB.out) | (with_reducible refine Kd.C_alloc ?_ _) | (with_reducible refine Kd.C_drewN ?_ _) | (with_reducible refine Kd.C_drew ?_))); (case side2 => exact HC135_0.out); (case side3 => repeat (first | exact (Kd.C_below HR1.out HB.out) | (with_reducible refine Kd.C_alloc ?_ _) | (with_reducible refine Kd.C_drewN ?_ _) | (with_reducible refine Kd.C_drew ?_))); (case side4 => exact HC1.out); rintro e w8 ⟨rfl, hb⟩; refine ⟨_, rfl, ?_⟩; have n0_ := Aside0.mk (Kd.R_below (by (with_reducible repeat (first | apply Kd.R_alloc | apply Kd.R_drewN | apply Kd.R_drew)); exact HO_5.out) hb); have n1_ := Aside0.mk (below_step (by repeat (first | (with_reducible first | exact HB.out | apply below_alloc | apply pw_below_drewN | apply below_drew1) | exact HB.out)) hb); clear HO_5; clear HB; have HO_5 := n0_; have HB := n1_; clear n0_ n1_; (try clear hb); (try clear hb2); (try clear hk); (try clear hi)) | ((with_reducible refine gate_builtin (b := .append) (xs := #[.tmp 14, .tmp 18]) rfl ?_); at_builtin; refine Kd.R_append (Kd.int .u8) (w0 := w) w.heap.size rfl (.tmp 14) (.tmp 18) 23 5 (.int .u8 0) 1 rfl Try.underlying23 info5 rfl (by decide) (by omega) u5 x5_1 t136 [.int .u8 t136] (fun _ => True) (fun _ => False) rfl rfl ?aP (fun _ hk => hk.elim) ?aF ?aO ?aB ?aS ?aL ?_; (case aP => exact rfl); (case aB => exact (by repeat (first | (with_reducible first | exact HB.out | apply below_alloc | apply pw_below_drewN | apply below_drew1) | exact HB.out))); (case aF => exact (fun _ _ => trivial)); (case aO => exact (by (with_reducible repeat (first | apply Kd.R_alloc | apply Kd.R_drewN | apply Kd.R_drew)); exact HO_5.out)); (case aS => exact (below_size (by repeat (first | (with_reducible first | exact HB.out | apply below_alloc | apply pw_below_drewN | apply below_drew1) | exact HB.out)))); (case aL => have := LMc7.out; omega); intro v138 w9 ho hb hg hat; rw [← Ny137.out] at ho; have n0_ := Aside0.mk (hb); have n1_ := Aside0.mk (ho); clear HB; clear HO_5; have HB := n0_; have HO139 := n1_; clear n0_ n1_; clear ho hb hg hat))
       go_roundg k1
       case measure => have := HK1.out; omega
       case rel => exact ⟨(y137), (wrap64 (x10_1 + 1)), (by first | rfl | (simp; done) | (simp [*]; done)), H', ⟨by have := HK1.out; omega⟩, ⟨by (with_reducible repeat (first | apply Kd.R_alloc | apply Kd.R_drewN | apply Kd.R_drew)); exact HO139.out⟩, ⟨by repeat (first | (with_reducible first | exact HB.out | apply below_alloc | apply pw_below_drewN | apply below_drew1) | exact HB.out)⟩⟩
      ·rw [if_neg c7] at H
       exact absurd H (by simp)
     ·rw [if_neg c5] at H
      exact absurd H (by simp)
    ·rw [if_neg c4] at H
     exact absurd H (by simp)
   ·rw [if_neg c3] at H
    have c3b0 : decide (x10_1 < (l0.length : Int)) = false := decide_eq_false c3
    clear c3
    obtain rfl := Option.some.inj H
    go_wp2
    go_ret
    exact ⟨_, by first | rfl | (simp [errW_none, errW_some] <;> rfl) | (simp [*, errW_none, errW_some] <;> rfl), by (with_reducible repeat (first | apply Kd.R_alloc | apply Kd.R_drewN | apply Kd.R_drew)); exact HO_5.out, by repeat (first | (with_reducible first | exact HB.out | apply below_alloc | apply pw_below_drewN | apply below_drew1) | exact HB.out)⟩
def linear_beside.l0 : Nat → List (List Int) → List Int → Int → Int → Option ((List (List Int)))
 | 0, _, _, _, _ => none
 | k + 1, x5, x10, x11, x12 => if x12 < x11 then (if 0 ≤ x12 then (if x12 < (x10.length : Int) then (if x12 < (x5.length : Int) then (if (rd_L1 x5 x12).length < 140737488355328 then (linear_beside.l0 k (x5.set (x12 : Int).toNat ((rd_L1 x5 x12) ++ [rd x10 x12])) x10 x11 (wrap64 (x12 + 1))) else (none)) else (none)) else (none)) else (none)) else (some x5)
def linear_beside.f (k : Nat) (l0 : List (List Int)) (l1 : List Int) : Option ((List (List Int))) := (linear_clone.f k l0).bind fun t140 => (linear_beside.l0 k t140 l1 (l1.length : Int) 0)
theorem linear_beside.mono_l : ∀ k, (∀ y0 y1 y2 y3, LeO (linear_beside.l0 k y0 y1 y2 y3) (linear_beside.l0 (k + 1) y0 y1 y2 y3))
 | 0 => fun _ _ _ _ r h => by simp [linear_beside.l0] at h
 | k + 1 => by
  have ih0 := linear_beside.mono_l k
  ·intro y0 y1 y2 y3
   unfold linear_beside.l0
   repeat' first
   | (with_reducible exact ih0 _ _ _ _)
   | (with_reducible exact linear_clone.mono _ _)
   | (with_reducible exact LeO.refl _)
   | (with_reducible exact LeO.none _)
   | (with_reducible refine LeO.ite ?_ ?_)
   | (with_reducible refine LeO.bind ?_ (fun _ => ?_))
   | exact ih0 _ _ _ _
   | exact linear_clone.mono _ _
   | exact LeO.none _
   | refine LeO.ite ?_ ?_
   | refine LeO.bind ?_ (fun _ => ?_)
theorem linear_beside.mono : ∀ a0 a1 k, LeO (linear_beside.f k a0 a1) (linear_beside.f (k + 1) a0 a1) := by
 intro a0 a1 k
 have ih0 := linear_beside.mono_l k
 unfold linear_beside.f
 repeat' first
  | (with_reducible exact ih0 _ _ _ _)
  | (with_reducible exact linear_clone.mono _ _)
  | (with_reducible exact LeO.refl _)
  | (with_reducible exact LeO.none _)
  | (with_reducible refine LeO.ite ?_ ?_)
  | (with_reducible refine LeO.bind ?_ (fun _ => ?_))
  | exact ih0 _ _ _ _
  | exact linear_clone.mono _ _
  | exact LeO.none _
  | refine LeO.ite ?_ ?_
  | refine LeO.bind ?_ (fun _ => ?_)
set_option maxHeartbeats 8000000 in
set_option maxRecDepth 100000 in
theorem linear_beside.calls (k : Nat) (A0 : Option Addr) (c0 : Nat) (l0 : List (List Int)) (A1 : Option Addr) (c1 : Nat) (l1 : List Int) (r : List (List Int)) (w : World) (hr0 : Kd.C (Kd.slice 5 (Kd.int .u8)) w A0 l0.length l0) (hc0 : l0.length ≤ c0) (hr1 : Kd.C (Kd.int .u8) w A1 l1.length l1) (hc1 : l1.length ≤ c1) (h : linear_beside.f k l0 l1 = some r) :
 Calls Try.prog 33 #[.slice A0 l0.length c0, .slice A1 l1.length c1] w fun e w' => ∃ v0_ : Value, e = .returned (v0_) ∧ Kd.S (Kd.slice 5 (Kd.int .u8)) 23 w' w.heap.size (fun _ => True) v0_ r ∧ Below w.heap.size w w' := by
 have HR0 := Aside0.mk hr0
 have HC0 := Aside0.mk hc0
 clear hr0 hc0
 have HR1 := Aside0.mk hr1
 have HC1 := Aside0.mk hc1
 clear hr1 hc1
 have HB := Aside0.mk (Below.refl w.heap.size w)
 have H : ((linear_clone.f k l0).bind fun t140 => (linear_beside.l0 k t140 l1 (l1.length : Int) 0)) = some r := h
 clear h
 replace H := Option.bind_eq_some_iff.mp H
 obtain ⟨t140, A30, H⟩ := H
 replace H : (linear_beside.l0 k t140 l1 (l1.length : Int) 0) = some r := H
 have A3 := Aside0.mk A30
 clear A30
 have H' := Aside0.mk H
 clear H
 go_enter Try.func33, Try.ntmps33
 go_wp2_with (first | ((with_reducible refine gate_callee (f := 24) rfl ?_); refine goesL_ (some 9) rfl rfl Try.func24 (by kernel_rfl) rfl #[.slice A0 l0.length c0] rfl (by (try simp only [List.map_toArray, List.map_cons, List.map_nil]); first | done | rfl | (simp only [List.length_drop, List.length_take]; rfl)) ?_; (with_reducible refine (linear_clone.calls k _ _ l0 t140 _ ?side1 ?side2 A3.out).mono ?_); (case side1 => repeat (first | exact HR0.out | (with_reducible refine Kd.C_alloc ?_ _) | (with_reducible refine Kd.C_drewN ?_ _) | (with_reducible refine Kd.C_drew ?_))); (case side2 => exact HC0.out); rintro e w4 ⟨v141, rfl, ho0, hb⟩; refine ⟨_, rfl, ?_⟩; have n0_ := Aside0.mk (Kd.S_lower ho0 (below_size (by repeat (first | (with_reducible first | exact HB.out | apply below_alloc | apply pw_below_drewN | apply below_drew1) | exact HB.out)))); have n1_ := Aside0.mk (below_step (by repeat (first | (with_reducible first | exact HB.out | apply below_alloc | apply pw_below_drewN | apply below_drew1) | exact HB.out)) hb); clear HB; have HO142 := n0_; have HB := n1_; clear n0_ n1_; (try clear hb); (try clear hb2); (try clear hk); (try clear hi); (try clear ho0)))
 go_loopg [12] k (fun kq v12 w' => ∃ (x5_1 : List (List Int)) (x12_1 : Int), v12 = .int .i64 x12_1 ∧ Aside0 (linear_beside.l0 kq x5_1 l1 (l1.length : Int) x12_1 = some r) ∧ Aside0 (kq ≤ k) ∧ Aside0 (Kd.S (Kd.slice 5 (Kd.int .u8)) 23 w' w.heap.size (fun _ => True) v141 x5_1) ∧ Aside0 (Below w.heap.size w w'))
 case atStart => exact ⟨(t140), (0), (by first | rfl | (simp; done) | (simp [*]; done)), H', ⟨Nat.le_refl _⟩, ⟨by (with_reducible repeat (first | apply Kd.S_alloc | apply Kd.S_drewN | apply Kd.S_drew)); exact HO142.out⟩, ⟨by repeat (first | (with_reducible first | exact HB.out | apply below_alloc | apply pw_below_drewN | apply below_drew1) | exact HB.out)⟩⟩
 case round =>
  clear H'
  try clear c1
  try clear c2
  try clear p2
  try clear c3
  obtain ⟨x5_1, x12_1, rfl, HA, HK1, HO_5, HB⟩ := hrel
  cases gk with
  | zero => exact absurd HA.out (by simp [linear_beside.l0])
  | succ k1 =>
   have H := HA.out
   clear HA
   simp only [linear_beside.l0] at H
   by_cases c5 : x12_1 < (l1.length : Int)
   ·rw [if_pos c5] at H
    have c5b0 : decide (x12_1 < (l1.length : Int)) = true := decide_eq_true c5
    clear c5
    by_cases c6 : 0 ≤ x12_1
    ·rw [if_pos c6] at H
     have c6b0 : decide (0 ≤ x12_1) = true := decide_eq_true c6
     clear c6
     by_cases c7 : x12_1 < (l1.length : Int)
     ·rw [if_pos c7] at H
      have c7b0 : decide (x12_1 < (l1.length : Int)) = true := decide_eq_true c7
      clear c7
      by_cases c8 : x12_1 < (x5_1.length : Int)
      ·rw [if_pos c8] at H
       have c8b0 : decide (x12_1 < (x5_1.length : Int)) = true := decide_eq_true c8
       clear c8
       by_cases c9 : (rd_L1 x5_1 x12_1).length < 140737488355328
       ·rw [if_pos c9] at H
        have LMc9 := Aside0.mk c9
        clear c9
        obtain ⟨y145, hy145⟩ : ∃ y_ : List Int, y_ = ((rd_L1 x5_1 x12_1) ++ [rd l1 x12_1]) := ⟨_, rfl⟩
        replace H : (linear_beside.l0 k1 (x5_1.set (x12_1 : Int).toNat y145) l1 (l1.length : Int) (wrap64 (x12_1 + 1))) = some r := by first | (rw [hy145]; with_reducible exact H) | (have H2_ := (Option.bind_some _ _).symm.trans H; rw [hy145]; with_reducible exact H2_) | (have H2_ := (Option.bind_some _ _).symm.trans H; with_reducible exact H2_) | with_reducible exact H | (rw [hy145]; exact H) | exact H
        have Ny145 := Aside0.mk hy145
        clear hy145
        obtain ⟨y148, hy148⟩ : ∃ y_ : List (List Int), y_ = (x5_1.set (x12_1 : Int).toNat y145) := ⟨_, rfl⟩
        replace H : (linear_beside.l0 k1 y148 l1 (l1.length : Int) (wrap64 (x12_1 + 1))) = some r := by first | (rw [hy148]; with_reducible exact H) | (have H2_ := (Option.bind_some _ _).symm.trans H; rw [hy148]; with_reducible exact H2_) | (have H2_ := (Option.bind_some _ _).symm.trans H; with_reducible exact H2_) | with_reducible exact H | (rw [hy148]; exact H) | exact H
        have Ny148 := Aside0.mk hy148
        clear hy148
        have H' := Aside0.mk H
        clear H
        have p143 : 0 ≤ (x12_1 : Int) := of_decide_eq_true (by first | (with_reducible assumption) | assumption)
        have q143 : x12_1 < (l1.length : Int) := of_decide_eq_true (by first | (with_reducible assumption) | assumption)
        obtain ⟨ad143, e143, hx143_0⟩ := Kd.at_int HR1.out x12_1 p143 q143
        cases e143
        replace hx143_0 := (HB.out.cell (World.block_lt_of_cell? w _ hx143_0)).trans hx143_0
        replace p143 := eq_true p143
        replace q143 := eq_true q143
        obtain ⟨Ao11, co11, eo11⟩ := Kd.S_slice HO_5.out
        subst eo11
        have p144 : 0 ≤ (x12_1 : Int) := of_decide_eq_true (by first | (with_reducible assumption) | assumption)
        have q144 : x12_1 < (x5_1.length : Int) := of_decide_eq_true (by first | (with_reducible assumption) | assumption)
        obtain ⟨ad144, A144_0, c144_0, e144, hx144_0, hl144_0, hi144_0⟩ := at_L1 (Kd.S_reads' HO_5.out).2.2 x12_1 p144 q144
        cases e144
        obtain ⟨ce144, hce144, hMe144, hcc144⟩ := Kd.S_get HO_5.out [] x12_1 p144 (by first | exact q144 | exact of_decide_eq_true (by first | (with_reducible assumption) | assumption) | (have e_ := (Kd.S_reads' HO_5.out).1; omega))
        obtain ⟨ve144_0, rfl, ge144_0⟩ := hMe144
        have hv144_0 := hcc144 0 _ rfl
        rw [Nat.add_zero, show ((Kd.slice 5 (Kd.int .u8))).sz = 1 from rfl, Nat.mul_one] at hv144_0
        replace hv144_0 := Option.some.inj (hv144_0.symm.trans hx144_0)
        rw [hv144_0] at ge144_0
        have HL144_0 := Aside0.mk (show Kd.R (Kd.int .u8) 5 _ _ _ _ (rd_L1 x5_1 x12_1) from ge144_0)
        clear hv144_0 ge144_0
        have HX144_0 := Aside0.mk hx144_0
        clear hcc144 hce144
        have HR144_0 := Aside0.mk hi144_0
        have HC144_0 := Aside0.mk hl144_0
        clear hi144_0 hl144_0
        replace p144 := eq_true p144
        replace q144 := eq_true q144
        obtain ⟨go12, co12, eo12, gb12, gl12, cl12, HG12⟩ := Kd.S_form HO_5.out (by have h_ : (x12_1 : Int) < ((x5_1.length : Int) : Int) := of_decide_eq_true (by first | (with_reducible assumption) | assumption); have h2_ : 0 ≤ (x12_1 : Int) := (of_decide_eq_true (by first | (with_reducible assumption) | assumption)); omega)
        (first | cases eo12 | (injection eo12 with ea_ en_ ec_; (first | subst ea_ | (injection ea_ with ea_; subst ea_)); subst ec_; clear en_))
        have GB12 := Aside0.mk gb12
        have GG12 := Aside0.mk HG12
        clear gb12 gl12 HG12
        (first | simp only [add_plain] at hx144_0 | skip)
        obtain ⟨oki12, ce12, hcl12, hM12, hcc12, _, _, hH12⟩ := Kd.S_elem HO_5.out [] (x12_1 : Int) (of_decide_eq_true (by first | (with_reducible assumption) | assumption)) (by have h_ : (x12_1 : Int) < ((x5_1.length : Int) : Int) := of_decide_eq_true (by first | (with_reducible assumption) | assumption); first | exact h_ | (have e_ := (Kd.S_reads' HO_5.out).1; omega) | simpa using h_)
        obtain ⟨ve12_0, rfl, ge12_0⟩ := hM12
        have hv12 := hcc12 0 _ rfl
        have hX12 := HX144_0.out
        (try simp only [add_plain] at hX12)
        (try simp only [Nat.add_zero] at hv12)
        (try rw [show ((Kd.slice 5 (Kd.int .u8))).sz = 1 from rfl, Nat.mul_one] at hv12)
        replace hv12 := Option.some.inj (hv12.symm.trans hX12)
        subst hv12
        clear hX12 hcc12 hcl12
        have UU12 := Aside0.mk (show Kd.R (Kd.int .u8) 5 _ w.heap.size oki12 (.slice A144_0 (rd_L1 x5_1 x12_1).length c144_0) (rd_L1 x5_1 x12_1) from ge12_0)
        have HH12 := Aside0.mk hH12
        have HN12 := Aside0.mk (Kd.S_reads' HO_5.out).1
        clear hH12 ge12_0
        go_wp2_with (first | ((with_reducible refine gate_builtin (b := .append) (xs := #[.tmp 22, .tmp 24]) rfl ?_); at_builtin; refine Kd.R_append (Kd.int .u8) (w0 := w) w.heap.size rfl (.tmp 22) (.tmp 24) 23 5 (.int .u8 0) 1 rfl Try.underlying23 info5 rfl (by decide) (by omega) (.slice A144_0 (rd_L1 x5_1 x12_1).length c144_0) (rd_L1 x5_1 x12_1) (rd l1 x12_1) [.int .u8 (rd l1 x12_1)] (fun k_ => oki12 k_ ∨ ((fun _ => True)) k_ ∧ wr.heap.size ≤ k_) (fun _ => False) rfl rfl ?aP (fun _ hk => hk.elim) ?aF ?aO ?aB ?aS ?aL ?_; (case aP => exact rfl); (case aB => exact (by repeat (first | (with_reducible first | exact HB.out | apply below_alloc | apply pw_below_drewN | apply below_drew1) | exact HB.out))); (case aF => exact (fun k_ hk => .inr ⟨trivial, hk⟩)); (case aO => exact (by (with_reducible repeat (first | apply Kd.R_alloc | apply Kd.R_drewN | apply Kd.R_drew)); exact Kd.R_mono UU12.out (fun _ hk => .inl hk))); (case aS => exact (below_size (by repeat (first | (with_reducible first | exact HB.out | apply below_alloc | apply pw_below_drewN | apply below_drew1) | exact HB.out)))); (case aL => have := LMc9.out; omega); intro v146 w13 ho hb hg hat; rw [← Ny145.out] at ho; have n0_ := Aside0.mk (hb); have n1_ := Aside0.mk (Kd.H_grown (Kd.H_widen (by repeat (first | exact HH12.out | refine Kd.H_alloc ?_ _ | refine Kd.H_drewN ?_ _ | refine Kd.H_drew ?_))) hg (fun k_ e_ => .inl (UU12.out.1 k_ e_))); have n2_ := Aside0.mk (ho); clear HB; clear HH12; clear HO_5; clear UU12; clear HL144_0; have HB := n0_; have HH12 := n1_; have HO147 := n2_; clear n0_ n1_ n2_; clear ho hb hg hat; have p10 : 0 ≤ (x12_1 : Int) := of_decide_eq_true (by first | (with_reducible assumption) | assumption); have q10 : (x12_1 : Int) < ((x5_1.length : Int) : Int) := of_decide_eq_true (by first | (with_reducible assumption) | assumption); replace p10 := eq_true p10; replace q10 := eq_true q10; obtain ⟨Ao16, co16, eo16⟩ := Kd.R_slice HO147.out; subst eo16; obtain ⟨_, _, hraw14, _, _, hcc14, _⟩ := Kd.H_raw HH12.out (of_decide_eq_true (by first | (with_reducible assumption) | assumption)) (by have h_ : (x12_1 : Int) < ((x5_1.length : Int) : Int) := of_decide_eq_true (by first | (with_reducible assumption) | assumption); first | exact h_ | (have e_ := (HN12.out); omega) | simpa using h_); obtain ⟨_, hfr14⟩ := Kd.H_at HH12.out (of_decide_eq_true (by first | (with_reducible assumption) | assumption)) (by have h_ : (x12_1 : Int) < ((x5_1.length : Int) : Int) := of_decide_eq_true (by first | (with_reducible assumption) | assumption); first | exact h_ | (have e_ := (HN12.out); omega) | simpa using h_); have hx14_0 := hcc14 0 _ rfl; have hf14_0 := hfr14 0; (try simp only [Nat.add_zero] at hx14_0 hf14_0); (try rw [show ((Kd.slice 5 (Kd.int .u8))).sz = 1 from rfl, Nat.mul_one] at hx14_0); (try rw [show ((Kd.slice 5 (Kd.int .u8))).sz = 1 from rfl, Nat.mul_one] at hf14_0); have HP14 := Kd.S_seg0 HH12.out (of_decide_eq_true (by first | (with_reducible assumption) | assumption)) (by have h_ : (x12_1 : Int) < ((x5_1.length : Int) : Int) := of_decide_eq_true (by first | (with_reducible assumption) | assumption); first | exact h_ | (have e_ := (HN12.out); omega) | simpa using h_) (seg := [.slice Ao16 y145.length co16]) (j := 0) (show 1 ≤ 1 from by decide) (x' := y145) (Kd.M_row HO147.out) (fun _ hk => hk); (try simp only [show ((Kd.slice 5 (Kd.int .u8))).sz = 1 from rfl, Nat.mul_one, Nat.add_zero] at HP14); clear hcc14 hfr14) | ((with_reducible refine gate_store (t := 23) (p := 26) rfl ?_); refine store_event (t := 23) (p := 26) (v := ?vo_w15) (w1 := (w13.setCell ⟨go12, (x12_1 : Int).toNat, none⟩ (.slice Ao16 y145.length co16))) ?hg ?ho ?hn ?hr ?_; (case ho => rfl); (case hg => rfl); (case hn => rfl); (case hr => first | (go_simp; done) | (go_simp; rfl)); intro w15 hw; have hg : w13.grownBy w15 (some go12) := (by rw [hw]; exact HP14.2); have hp_ : Kd.S (Kd.slice 5 (Kd.int .u8)) 23 w15 w.heap.size (fun _ => True) (.slice (some ⟨go12, 0, none⟩) x5_1.length co11) y148 := (by rw [hw, Ny148.out]; exact HP14.1); clear HP14; have n0_ := Aside0.mk ((by rw [hw]; exact below_set HB.out GB12.out : Below w.heap.size w w15)); have n1_ := Aside0.mk (hp_); clear HB; clear HO147; clear HH12; have HB := n0_; have HO_5 := n1_; clear n0_ n1_; clear hg hw hp_ hraw14))
        go_roundg k1
        case measure => have := HK1.out; omega
        case rel => exact ⟨(y148), (wrap64 (x12_1 + 1)), (by first | rfl | (simp; done) | (simp [*]; done)), H', ⟨by have := HK1.out; omega⟩, ⟨by (with_reducible repeat (first | apply Kd.S_alloc | apply Kd.S_drewN | apply Kd.S_drew)); exact HO_5.out⟩, ⟨by repeat (first | (with_reducible first | exact HB.out | apply below_alloc | apply pw_below_drewN | apply below_drew1) | exact HB.out)⟩⟩
       ·rw [if_neg c9] at H
        exact absurd H (by simp)
      ·rw [if_neg c8] at H
       exact absurd H (by simp)
     ·rw [if_neg c7] at H
      exact absurd H (by simp)
    ·rw [if_neg c6] at H
     exact absurd H (by simp)
   ·rw [if_neg c5] at H
    have c5b0 : decide (x12_1 < (l1.length : Int)) = false := decide_eq_false c5
    clear c5
    obtain rfl := Option.some.inj H
    go_wp2
    go_ret
    exact ⟨_, by first | rfl | (simp [errW_none, errW_some] <;> rfl) | (simp [*, errW_none, errW_some] <;> rfl), by (with_reducible repeat (first | apply Kd.S_alloc | apply Kd.S_drewN | apply Kd.S_drew)); exact HO_5.out, by repeat (first | (with_reducible first | exact HB.out | apply below_alloc | apply pw_below_drewN | apply below_drew1) | exact HB.out)⟩
end Go.Proofs.Ytanknpdibjfmlaa.P
namespace Go.Proofs.Ytanknpdibjfmlaa.P
open Go.RowKit Go.Proofs.YtanknpdibjfmlaaW.PrintWords Go.Proofs.YtanknpdibjfmlaaW.PrintLast Go.Proofs.YtanknpdibjfmlaaW.PrintMore
attribute [local go_sem] max2_int min2_int max_two min_two max_three min_three max_four min_four
set_option linter.unusedVariables false
set_option linter.unusedSimpArgs false
mutual
def linear_Solve.j0 : Nat → List (List Int) → List Int → Bool → Option (List Int × Bool)
 | 0, _, _, _ => none
 | k + 1, x0, x1, x21 => if x21 = true then (some (([] : List Int), false)) else ((linear_width.f x0).bind fun t150 => ((linear_beside.f k x0 x1).bind fun t151 => ((linear_Reduce.f k t151 t150).bind fun bt154 => (if 0 ≤ t150 then (if (t150 : Int).toNat ≤ 281474976710656 then (linear_Solve.l0 k t150 bt154.2 (List.replicate (t150 : Int).toNat 0) bt154.1 (bt154.1.length : Int) 0) else (none)) else (none)))))
def linear_Solve.l0 : Nat → Int → List Int → List Int → List (List Int) → Int → Int → Option (List Int × Bool)
 | 0, _, _, _, _, _, _ => none
 | k + 1, x6, x8, x9, x34, x35, x36 => if x36 < x35 then (if 0 ≤ x36 then (if x36 < (x34.length : Int) then (if x36 < (x8.length : Int) then (if 0 ≤ x6 then (if x6 < ((rd_L1 x34 x36).length : Int) then (if 0 ≤ (rd x8 x36) then (if (rd x8 x36) < (x9.length : Int) then (linear_Solve.l0 k x6 x8 (x9.set ((rd x8 x36) : Int).toNat (rd (rd_L1 x34 x36) x6)) x34 x35 (wrap64 (x36 + 1))) else (none)) else (none)) else (none)) else (none)) else (if 0 ≤ x6 then (if x6 < ((rd_L1 x34 x36).length : Int) then (if (rd (rd_L1 x34 x36) x6) = 0 then (linear_Solve.l0 k x6 x8 x9 x34 x35 (wrap64 (x36 + 1))) else (some (([] : List Int), false))) else (none)) else (none))) else (none)) else (none)) else (some (x9, true))
end
def linear_Solve.f (k : Nat) (l0 : List (List Int)) (l1 : List Int) : Option (List Int × Bool) := (linear_Right.f l0).bind fun t149 => (if t149 = true then (linear_Solve.j0 k l0 l1 ((l0.length : Int) != (l1.length : Int))) else (linear_Solve.j0 k l0 l1 true))
theorem linear_Solve.mono_l : ∀ k, (∀ y0 y1 y2, LeO (linear_Solve.j0 k y0 y1 y2) (linear_Solve.j0 (k + 1) y0 y1 y2)) ∧ (∀ y0 y1 y2 y3 y4 y5, LeO (linear_Solve.l0 k y0 y1 y2 y3 y4 y5) (linear_Solve.l0 (k + 1) y0 y1 y2 y3 y4 y5))
 | 0 => ⟨fun _ _ _ r h => by simp [linear_Solve.j0] at h, fun _ _ _ _ _ _ r h => by simp [linear_Solve.l0] at h⟩
 | k + 1 => by
  obtain ⟨ih0, ih1⟩ := linear_Solve.mono_l k
  refine ⟨?_, ?_⟩
  ·intro y0 y1 y2
   unfold linear_Solve.j0
   repeat' first
   | (with_reducible exact ih0 _ _ _)
   | (with_reducible exact ih1 _ _ _ _ _ _)
   | (with_reducible exact linear_Reduce.mono _ _ _)
   | (with_reducible exact linear_beside.mono _ _ _)
   | (with_reducible exact LeO.refl _)
   | (with_reducible exact LeO.none _)
   | (with_reducible refine LeO.ite ?_ ?_)
   | (with_reducible refine LeO.bind ?_ (fun _ => ?_))
   | exact ih0 _ _ _
   | exact ih1 _ _ _ _ _ _
   | exact linear_Reduce.mono _ _ _
   | exact linear_beside.mono _ _ _
   | exact LeO.none _
   | refine LeO.ite ?_ ?_
   | refine LeO.bind ?_ (fun _ => ?_)
  ·intro y0 y1 y2 y3 y4 y5
   unfold linear_Solve.l0
   repeat' first
   | (with_reducible exact ih0 _ _ _)
   | (with_reducible exact ih1 _ _ _ _ _ _)
   | (with_reducible exact linear_Reduce.mono _ _ _)
   | (with_reducible exact linear_beside.mono _ _ _)
   | (with_reducible exact LeO.refl _)
   | (with_reducible exact LeO.none _)
   | (with_reducible refine LeO.ite ?_ ?_)
   | (with_reducible refine LeO.bind ?_ (fun _ => ?_))
   | exact ih0 _ _ _
   | exact ih1 _ _ _ _ _ _
   | exact linear_Reduce.mono _ _ _
   | exact linear_beside.mono _ _ _
   | exact LeO.none _
   | refine LeO.ite ?_ ?_
   | refine LeO.bind ?_ (fun _ => ?_)
theorem linear_Solve.mono : ∀ a0 a1 k, LeO (linear_Solve.f k a0 a1) (linear_Solve.f (k + 1) a0 a1) := by
 intro a0 a1 k
 obtain ⟨ih0, ih1⟩ := linear_Solve.mono_l k
 unfold linear_Solve.f
 repeat' first
  | (with_reducible exact ih0 _ _ _)
  | (with_reducible exact ih1 _ _ _ _ _ _)
  | (with_reducible exact linear_Reduce.mono _ _ _)
  | (with_reducible exact linear_beside.mono _ _ _)
  | (with_reducible exact LeO.refl _)
  | (with_reducible exact LeO.none _)
  | (with_reducible refine LeO.ite ?_ ?_)
  | (with_reducible refine LeO.bind ?_ (fun _ => ?_))
  | exact ih0 _ _ _
  | exact ih1 _ _ _ _ _ _
  | exact linear_Reduce.mono _ _ _
  | exact linear_beside.mono _ _ _
  | exact LeO.none _
  | refine LeO.ite ?_ ?_
  | refine LeO.bind ?_ (fun _ => ?_)
def linear_Solve.T10 : Bool × List (List Nat × List Nat) := (true, [([], []), ([], []), ([], []), ([1, 2], [1, 2]), ([3], [3]), ([], []), ([], []), ([5, 6], [5, 6]), ([7], [7]), ([0, 4, 0, 1, 2, 3, 4, 5, 6, 7, 8], [0, 4]), ([9, 8, 0, 1, 2, 3, 4, 5, 6, 7, 8], [8, 9])])
def linear_Solve.B10 : List Nat := [0, 0, 0, 6, 14, 0, 0, 96, 224, 511, 1023]
theorem linear_Solve.tab10 : rtab .any (opsOf Try.f21 10) = linear_Solve.T10 := by kernel_rfl
theorem linear_Solve.bits10 : waitsOk linear_Solve.T10.2 linear_Solve.B10 = true := by kernel_rfl
set_option maxHeartbeats 8000000 in
set_option maxRecDepth 100000 in
theorem linear_Solve.calls (k : Nat) (A0 : Option Addr) (c0 : Nat) (l0 : List (List Int)) (A1 : Option Addr) (c1 : Nat) (l1 : List Int) (r1 : List Int) (r2 : Bool) (w : World) (hr0 : Kd.C (Kd.slice 5 (Kd.int .u8)) w A0 l0.length l0) (hc0 : l0.length ≤ c0) (hr1 : Kd.C (Kd.int .u8) w A1 l1.length l1) (hc1 : l1.length ≤ c1) (h : linear_Solve.f k l0 l1 = some (r1, r2)) :
 Calls Try.prog 21 #[.slice A0 l0.length c0, .slice A1 l1.length c1] w fun e w' => ∃ v0_ : Value, e = .returned (.tuple #[v0_, .bool r2]) ∧ Kd.R (Kd.int .u8) 5 w' w.heap.size (fun _ => True) v0_ r1 ∧ Below w.heap.size w w' := by
 have HR0 := Aside0.mk hr0
 have HC0 := Aside0.mk hc0
 clear hr0 hc0
 have HR1 := Aside0.mk hr1
 have HC1 := Aside0.mk hc1
 clear hr1 hc1
 have HB := Aside0.mk (Below.refl w.heap.size w)
 have H : ((linear_Right.f l0).bind fun t149 => (if t149 = true then (linear_Solve.j0 k l0 l1 ((l0.length : Int) != (l1.length : Int))) else (linear_Solve.j0 k l0 l1 true))) = some (r1, r2) := h
 clear h
 have HC3 := Aside0.mk H
 clear H
 go_enter Try.func21, Try.ntmps21
 go_upto_region 1 with (fail)
 go_cut [21] (fun v21 wc => ∃ (kq : Nat) (x21_2 : Bool), v21 = .bool x21_2 ∧ Aside0 (linear_Solve.j0 kq l0 l1 x21_2 = some (r1, r2)) ∧ Aside0 (kq ≤ k) ∧ Aside0 (Below w.heap.size w wc))
 case first =>
  have H := HC3.out
  clear HC3
  replace H := Option.bind_eq_some_iff.mp H
  obtain ⟨t149, A40, H⟩ := H
  replace H : (if t149 = true then (linear_Solve.j0 k l0 l1 ((l0.length : Int) != (l1.length : Int))) else (linear_Solve.j0 k l0 l1 true)) = some (r1, r2) := H
  have A4 := Aside0.mk A40
  clear A40
  by_cases c5 : t149 = true
  ·subst c5
   have H1 : (linear_Solve.j0 k l0 l1 ((l0.length : Int) != (l1.length : Int))) = some (r1, r2) := by rw [if_pos rfl] at H; exact H
   clear H
   have H := H1
   clear H1
   have H' := Aside0.mk H
   clear H
   go_wp2_with (first | ((with_reducible refine gate_callee (f := 13) rfl ?_); refine goesL_ (some 13) rfl rfl Try.func13 (by kernel_rfl) rfl #[.slice A0 l0.length c0] rfl (by (try simp only [List.map_toArray, List.map_cons, List.map_nil]); first | done | rfl | (simp only [List.length_drop, List.length_take]; rfl)) ?_; (with_reducible refine (linear_Right.calls _ _ l0 true _ ?side1 ?side2 A4.out).mono ?_); (case side1 => repeat (first | exact (Kd.C_below HR0.out HB.out) | (with_reducible refine Kd.C_alloc ?_ _) | (with_reducible refine Kd.C_drewN ?_ _) | (with_reducible refine Kd.C_drew ?_))); (case side2 => exact HC0.out); rintro e w6 ⟨rfl, hb⟩; refine ⟨_, rfl, ?_⟩; have n0_ := Aside0.mk (below_step (by repeat (first | (with_reducible first | exact HB.out | apply below_alloc | apply pw_below_drewN | apply below_drew1) | exact HB.out)) hb); clear HB; have HB := n0_; clear n0_; (try clear hb); (try clear hb2); (try clear hk); (try clear hi)))
   go_meet
   case rel => exact ⟨_, (((l0.length : Int) != (l1.length : Int))), (by first | rfl | (simp; done) | (simp [*]; done)), H', ⟨by first | omega | exact Nat.le_refl _⟩, ⟨by repeat (first | (with_reducible first | exact HB.out | apply below_alloc | apply pw_below_drewN | apply below_drew1) | exact HB.out)⟩⟩
  ·replace c5 := Bool.eq_false_iff.mpr c5
   subst c5
   have H1 : (linear_Solve.j0 k l0 l1 true) = some (r1, r2) := by rw [if_neg (show ¬ (false = true) by decide)] at H; exact H
   clear H
   have H := H1
   clear H1
   have H' := Aside0.mk H
   clear H
   go_wp2_with (first | ((with_reducible refine gate_callee (f := 13) rfl ?_); refine goesL_ (some 13) rfl rfl Try.func13 (by kernel_rfl) rfl #[.slice A0 l0.length c0] rfl (by (try simp only [List.map_toArray, List.map_cons, List.map_nil]); first | done | rfl | (simp only [List.length_drop, List.length_take]; rfl)) ?_; (with_reducible refine (linear_Right.calls _ _ l0 false _ ?side1 ?side2 A4.out).mono ?_); (case side1 => repeat (first | exact (Kd.C_below HR0.out HB.out) | (with_reducible refine Kd.C_alloc ?_ _) | (with_reducible refine Kd.C_drewN ?_ _) | (with_reducible refine Kd.C_drew ?_))); (case side2 => exact HC0.out); rintro e w7 ⟨rfl, hb⟩; refine ⟨_, rfl, ?_⟩; have n0_ := Aside0.mk (below_step (by repeat (first | (with_reducible first | exact HB.out | apply below_alloc | apply pw_below_drewN | apply below_drew1) | exact HB.out)) hb); clear HB; have HB := n0_; clear n0_; (try clear hb); (try clear hb2); (try clear hk); (try clear hi)))
   go_meet
   case rel => exact ⟨_, (true), (by first | rfl | (simp; done) | (simp [*]; done)), H', ⟨by first | omega | exact Nat.le_refl _⟩, ⟨by repeat (first | (with_reducible first | exact HB.out | apply below_alloc | apply pw_below_drewN | apply below_drew1) | exact HB.out)⟩⟩
 case rest =>
  clear HC3
  try clear c1
  try clear c2
  try clear p2
  try clear c5
  obtain ⟨kq, x21_2, rfl, HA, HJ2, HB⟩ := hcut
  cases kq with
  | zero => exact absurd HA.out (by simp [linear_Solve.j0])
  | succ kj2 =>
   have H := HA.out
   clear HA
   simp only [linear_Solve.j0] at H
   by_cases c8 : x21_2 = true
   ·subst c8
    have H1 : (some (([] : List Int), false)) = some (r1, r2) := by rw [if_pos rfl] at H; exact H
    clear H
    have H := H1
    clear H1
    simp only [Option.some.injEq, Prod.mk.injEq] at H
    obtain ⟨rfl, rfl⟩ := H
    go_wp2
    go_ret2
    exact ⟨_, by first | rfl | (simp [errW_none, errW_some] <;> rfl) | (simp [*, errW_none, errW_some] <;> rfl), by first | exact Kd.R_nil _ _ _ _ _ | exact Kd.N_nil _ _ _ _ _ | exact Kd.V_nil _ _ _ _ _ | exact Kd.Q_nil _ _ _ _ _ | exact Kd.S_nil _ _ _ _ _, by repeat (first | (with_reducible first | exact HB.out | apply below_alloc | apply pw_below_drewN | apply below_drew1) | exact HB.out)⟩
   ·replace c8 := Bool.eq_false_iff.mpr c8
    subst c8
    have H1 : ((linear_width.f l0).bind fun t150 => ((linear_beside.f kj2 l0 l1).bind fun t151 => ((linear_Reduce.f kj2 t151 t150).bind fun bt154 => (if 0 ≤ t150 then (if (t150 : Int).toNat ≤ 281474976710656 then (linear_Solve.l0 kj2 t150 bt154.2 (List.replicate (t150 : Int).toNat 0) bt154.1 (bt154.1.length : Int) 0) else (none)) else (none))))) = some (r1, r2) := by rw [if_neg (show ¬ (false = true) by decide)] at H; exact H
    clear H
    have H := H1
    clear H1
    replace H := Option.bind_eq_some_iff.mp H
    obtain ⟨t150, A90, H⟩ := H
    replace H : ((linear_beside.f kj2 l0 l1).bind fun t151 => ((linear_Reduce.f kj2 t151 t150).bind fun bt154 => (if 0 ≤ t150 then (if (t150 : Int).toNat ≤ 281474976710656 then (linear_Solve.l0 kj2 t150 bt154.2 (List.replicate (t150 : Int).toNat 0) bt154.1 (bt154.1.length : Int) 0) else (none)) else (none)))) = some (r1, r2) := H
    have A9 := Aside0.mk A90
    clear A90
    replace H := Option.bind_eq_some_iff.mp H
    obtain ⟨t151, A100, H⟩ := H
    replace H : ((linear_Reduce.f kj2 t151 t150).bind fun bt154 => (if 0 ≤ t150 then (if (t150 : Int).toNat ≤ 281474976710656 then (linear_Solve.l0 kj2 t150 bt154.2 (List.replicate (t150 : Int).toNat 0) bt154.1 (bt154.1.length : Int) 0) else (none)) else (none))) = some (r1, r2) := H
    have A10 := Aside0.mk A100
    clear A100
    replace H := Option.bind_eq_some_iff.mp H
    obtain ⟨⟨t154, t155⟩, A110, H⟩ := H
    replace H : (if 0 ≤ t150 then (if (t150 : Int).toNat ≤ 281474976710656 then (linear_Solve.l0 kj2 t150 t155 (List.replicate (t150 : Int).toNat 0) t154 (t154.length : Int) 0) else (none)) else (none)) = some (r1, r2) := H
    have A11 := Aside0.mk A110
    clear A110
    by_cases c12 : 0 ≤ t150
    ·rw [if_pos c12] at H
     have c12b0 := eq_true c12
     have c12b1 : decide (0 ≤ t150) = true := decide_eq_true c12
     clear c12
     by_cases c13 : (t150 : Int).toNat ≤ 281474976710656
     ·rw [if_pos c13] at H
      have c13b0 := eq_true c13
      have c13b1 : decide ((t150 : Int).toNat ≤ 281474976710656) = true := decide_eq_true c13
      clear c13
      obtain ⟨y160, hy160⟩ : ∃ y_ : List Int, y_ = (List.replicate (t150 : Int).toNat 0) := ⟨_, rfl⟩
      replace H : (linear_Solve.l0 kj2 t150 t155 y160 t154 (t154.length : Int) 0) = some (r1, r2) := by first | (rw [hy160]; with_reducible exact H) | (have H2_ := (Option.bind_some _ _).symm.trans H; rw [hy160]; with_reducible exact H2_) | (have H2_ := (Option.bind_some _ _).symm.trans H; with_reducible exact H2_) | with_reducible exact H | (rw [hy160]; exact H) | exact H
      have Ny160 := Aside0.mk hy160
      clear hy160
      have H' := Aside0.mk H
      clear H
      go_wp2_with (first | ((with_reducible refine gate_callee (f := 25) rfl ?_); refine goesL_ (some 23) rfl rfl Try.func25 (by kernel_rfl) rfl #[.slice A0 l0.length c0] rfl (by (try simp only [List.map_toArray, List.map_cons, List.map_nil]); first | done | rfl | (simp only [List.length_drop, List.length_take]; rfl)) ?_; (with_reducible refine (linear_width.calls _ _ l0 t150 _ ?side1 ?side2 A9.out).mono ?_); (case side1 => repeat (first | exact (Kd.C_below HR0.out HB.out) | (with_reducible refine Kd.C_alloc ?_ _) | (with_reducible refine Kd.C_drewN ?_ _) | (with_reducible refine Kd.C_drew ?_))); (case side2 => exact HC0.out); rintro e w' ⟨rfl, ⟨nd, rfl⟩⟩; refine ⟨_, rfl, ?_⟩) | ((with_reducible refine gate_callee (f := 33) rfl ?_); refine goesL_ (some 27) rfl rfl Try.func33 (by kernel_rfl) rfl #[.slice A0 l0.length c0, .slice A1 l1.length c1] rfl (by (try simp only [List.map_toArray, List.map_cons, List.map_nil]); first | done | rfl | (simp only [List.length_drop, List.length_take]; rfl)) ?_; (with_reducible refine (linear_beside.calls kj2 _ _ l0 _ _ l1 t151 _ ?side1 ?side2 ?side3 ?side4 A10.out).mono ?_); (case side1 => repeat (first | exact (Kd.C_below HR0.out (by repeat (first | (with_reducible first | exact HB.out | apply below_alloc | apply pw_below_drewN | apply below_drew1) | exact HB.out))) | (with_reducible refine Kd.C_alloc ?_ _) | (with_reducible refine Kd.C_drewN ?_ _) | (with_reducible refine Kd.C_drew ?_))); (case side2 => exact HC0.out); (case side3 => repeat (first | exact (Kd.C_below HR1.out (by repeat (first | (with_reducible first | exact HB.out | apply below_alloc | apply pw_below_drewN | apply below_drew1) | exact HB.out))) | (with_reducible refine Kd.C_alloc ?_ _) | (with_reducible refine Kd.C_drewN ?_ _) | (with_reducible refine Kd.C_drew ?_))); (case side4 => exact HC1.out); rintro e w14 ⟨v152, rfl, ho0, hb⟩; refine ⟨_, rfl, ?_⟩; have n0_ := Aside0.mk (Kd.S_lower ho0 (below_size (by repeat (first | (with_reducible first | exact HB.out | apply below_alloc | apply pw_below_drewN | apply below_drew1) | exact HB.out)))); have n1_ := Aside0.mk (below_step (by repeat (first | (with_reducible first | exact HB.out | apply below_alloc | apply pw_below_drewN | apply below_drew1) | exact HB.out)) hb); clear HB; have HO153 := n0_; have HB := n1_; clear n0_ n1_; (try clear hb); (try clear hb2); (try clear hk); (try clear hi); (try clear ho0); obtain ⟨Ao15, co15, eo15⟩ := Kd.S_slice HO153.out; subst eo15) | ((with_reducible refine gate_callee (f := 11) rfl ?_); refine goesL_ (some 29) rfl rfl Try.func11 (by kernel_rfl) rfl #[.slice Ao15 t151.length co15, .int .i64 t150] rfl (by (try simp only [List.map_toArray, List.map_cons, List.map_nil]); first | done | rfl | (simp only [List.length_drop, List.length_take]; rfl)) ?_; (with_reducible refine (linear_Reduce.calls kj2 _ _ t151 t150 t154 t155 _ ?side1 ?side2 A11.out).mono ?_); (case side1 => repeat (first | exact (Kd.S_reads' HO153.out).2.2 | (with_reducible refine Kd.C_alloc ?_ _) | (with_reducible refine Kd.C_drewN ?_ _) | (with_reducible refine Kd.C_drew ?_))); (case side2 => exact (Kd.S_reads' HO153.out).2.1); rintro e w16 ⟨v156, v158, rfl, ho0, ho1, hb⟩; refine ⟨_, rfl, ?_⟩; have n0_ := Aside0.mk (Kd.S_elder' (by (with_reducible repeat (first | apply Kd.S_alloc | apply Kd.S_drewN | apply Kd.S_drew)); exact HO153.out) (Kd.S_base ho0) hb); have n1_ := Aside0.mk (Kd.S_lower (Kd.S_new' ho0 (Kd.S_lt (by (with_reducible repeat (first | apply Kd.S_alloc | apply Kd.S_drewN | apply Kd.S_drew)); exact HO153.out))) (below_size (by repeat (first | (with_reducible first | exact HB.out | apply below_alloc | apply pw_below_drewN | apply below_drew1) | exact HB.out)))); have n2_ := Aside0.mk (Kd.R_lower ho1 (below_size (by repeat (first | (with_reducible first | exact HB.out | apply below_alloc | apply pw_below_drewN | apply below_drew1) | exact HB.out)))); have n3_ := Aside0.mk (below_step (by repeat (first | (with_reducible first | exact HB.out | apply below_alloc | apply pw_below_drewN | apply below_drew1) | exact HB.out)) hb); clear HO153; clear HB; have HO153 := n0_; have HO157 := n1_; have HO159 := n2_; have HB := n3_; clear n0_ n1_ n2_ n3_; (try clear hb); (try clear hb2); (try clear hk); (try clear hi); (try clear ho0); (try clear ho1)) | ((with_reducible refine gate_dst (N := 33) rfl ?_); (try (refine gate_guard (by rfl) ?_; dsimp only)); refine Kd.R_make (Kd.int .u8) _ 5 rfl (N := 33) rfl 23 _ _ rfl t150 rfl rfl Try.underlying23 (.int .u8 0) 1 info5 rfl (by decide) (by omega) 0 (ok := fun _ => True) (okp := fun _ => True) rfl (fun _ hk => hk) trivial (of_decide_eq_true (by first | (with_reducible assumption) | assumption)) (Nat.le_trans (Nat.mul_le_mul_right _ (of_decide_eq_true (by first | (with_reducible assumption) | assumption) : t150.toNat ≤ 281474976710656)) (by omega)) (Below.refl _ _) (Nat.le_refl _) ?_; intro v161 w17 ho18 hb hg_ hnew_; clear hg_ hnew_; (first | rw [← Ny160.out] at ho18 | (simp only [Int.reduceToNat] at ho18; rw [← Ny160.out] at ho18)); have n0_ := Aside0.mk (Kd.S_elder' (by (with_reducible repeat (first | apply Kd.S_alloc | apply Kd.S_drewN | apply Kd.S_drew)); exact HO153.out) (Kd.R_base ho18) hb); have n1_ := Aside0.mk (Kd.S_elder' (by (with_reducible repeat (first | apply Kd.S_alloc | apply Kd.S_drewN | apply Kd.S_drew)); exact HO157.out) (Kd.R_base ho18) hb); have n2_ := Aside0.mk (Kd.R_below (by (with_reducible repeat (first | apply Kd.R_alloc | apply Kd.R_drewN | apply Kd.R_drew)); exact HO159.out) hb); have n3_ := Aside0.mk (Kd.R_lower ho18 (below_size (by repeat (first | (with_reducible first | exact HB.out | apply below_alloc | apply pw_below_drewN | apply below_drew1) | exact HB.out)))); have n4_ := Aside0.mk (below_step (by repeat (first | (with_reducible first | exact HB.out | apply below_alloc | apply pw_below_drewN | apply below_drew1) | exact HB.out)) hb); clear HO153; clear HO157; clear HO159; clear HB; have HO153 := n0_; have HO157 := n1_; have HO159 := n2_; have HO162 := n3_; have HB := n4_; clear n0_ n1_ n2_ n3_ n4_; clear hb ho18; obtain ⟨Ao19, co19, eo19⟩ := Kd.S_slice HO157.out; subst eo19))
      go_loopg [36] kj2 (fun kq v36 w' => ∃ (x9_2 : List Int) (x36_2 : Int), v36 = .int .i64 x36_2 ∧ Aside0 (linear_Solve.l0 kq t150 t155 x9_2 t154 (t154.length : Int) x36_2 = some (r1, r2)) ∧ Aside0 (kq ≤ kj2) ∧ Aside0 (Kd.R (Kd.int .i64) 3 w' w.heap.size (fun _ => True) v158 t155) ∧ Aside0 (Kd.R (Kd.int .u8) 5 w' w.heap.size (fun _ => True) v161 x9_2) ∧ Aside0 (Kd.S (Kd.slice 5 (Kd.int .u8)) 23 w' w.heap.size (fun k_ => some k_ ≠ (v161 : Value).ownBlock) (.slice Ao19 t154.length co19) t154) ∧ Aside0 (Below w.heap.size w w'))
      case atStart => exact ⟨(y160), (0), (by first | rfl | (simp; done) | (simp [*]; done)), H', ⟨Nat.le_refl _⟩, ⟨by (with_reducible repeat (first | apply Kd.R_alloc | apply Kd.R_drewN | apply Kd.R_drew)); exact HO159.out⟩, ⟨by (with_reducible repeat (first | apply Kd.R_alloc | apply Kd.R_drewN | apply Kd.R_drew)); exact HO162.out⟩, ⟨by (with_reducible repeat (first | apply Kd.S_alloc | apply Kd.S_drewN | apply Kd.S_drew)); exact Kd.S_mono HO157.out (fun _ hk => hk.2)⟩, ⟨by repeat (first | (with_reducible first | exact HB.out | apply below_alloc | apply pw_below_drewN | apply below_drew1) | exact HB.out)⟩⟩
      case round =>
       clear H'
       try clear c1
       try clear c2
       try clear p2
       try clear c3
       try clear c5
       try clear c8
       try clear c11
       try clear c12
       try clear c12b0
       try clear c12b1
       try clear c13
       try clear c13b0
       try clear c13b1
       try clear p2
       obtain ⟨x9_2, x36_2, rfl, HA, HK2, HO_8, HO_9, HO_34, HB⟩ := hrel
       cases gk with
       | zero => exact absurd HA.out (by simp [linear_Solve.l0])
       | succ k2 =>
        have H := HA.out
        clear HA
        simp only [linear_Solve.l0] at H
        by_cases c20 : x36_2 < (t154.length : Int)
        ·rw [if_pos c20] at H
         have c20b0 : decide (x36_2 < (t154.length : Int)) = true := decide_eq_true c20
         clear c20
         by_cases c21 : 0 ≤ x36_2
         ·rw [if_pos c21] at H
          have c21b0 : decide (0 ≤ x36_2) = true := decide_eq_true c21
          clear c21
          by_cases c22 : x36_2 < (t154.length : Int)
          ·rw [if_pos c22] at H
           have c22b0 : decide (x36_2 < (t154.length : Int)) = true := decide_eq_true c22
           clear c22
           by_cases c23 : x36_2 < (t155.length : Int)
           ·rw [if_pos c23] at H
            have c23b0 : decide (x36_2 < (t155.length : Int)) = true := decide_eq_true c23
            clear c23
            by_cases c24 : 0 ≤ t150
            ·rw [if_pos c24] at H
             have c24b0 : decide (0 ≤ t150) = true := decide_eq_true c24
             clear c24
             by_cases c25 : t150 < ((rd_L1 t154 x36_2).length : Int)
             ·rw [if_pos c25] at H
              have c25b0 : decide (t150 < ((rd_L1 t154 x36_2).length : Int)) = true := decide_eq_true c25
              clear c25
              by_cases c26 : 0 ≤ (rd t155 x36_2)
              ·rw [if_pos c26] at H
               have c26b0 : decide (0 ≤ (rd t155 x36_2)) = true := decide_eq_true c26
               clear c26
               by_cases c27 : (rd t155 x36_2) < (x9_2.length : Int)
               ·rw [if_pos c27] at H
                have c27b0 : decide ((rd t155 x36_2) < (x9_2.length : Int)) = true := decide_eq_true c27
                clear c27
                obtain ⟨y166, hy166⟩ : ∃ y_ : List Int, y_ = (x9_2.set ((rd t155 x36_2) : Int).toNat (rd (rd_L1 t154 x36_2) t150)) := ⟨_, rfl⟩
                replace H : (linear_Solve.l0 k2 t150 t155 y166 t154 (t154.length : Int) (wrap64 (x36_2 + 1))) = some (r1, r2) := by first | (rw [hy166]; with_reducible exact H) | (have H2_ := (Option.bind_some _ _).symm.trans H; rw [hy166]; with_reducible exact H2_) | (have H2_ := (Option.bind_some _ _).symm.trans H; with_reducible exact H2_) | with_reducible exact H | (rw [hy166]; exact H) | exact H
                have Ny166 := Aside0.mk hy166
                clear hy166
                have H' := Aside0.mk H
                clear H
                have p163 : 0 ≤ (x36_2 : Int) := of_decide_eq_true (by first | (with_reducible assumption) | assumption)
                have q163 : x36_2 < (t154.length : Int) := of_decide_eq_true (by first | (with_reducible assumption) | assumption)
                obtain ⟨ad163, A163_0, c163_0, e163, hx163_0, hl163_0, hi163_0⟩ := at_L1 (Kd.S_reads' HO_34.out).2.2 x36_2 p163 q163
                cases e163
                obtain ⟨ce163, hce163, hMe163, hcc163⟩ := Kd.S_get HO_34.out [] x36_2 p163 (by first | exact q163 | exact of_decide_eq_true (by first | (with_reducible assumption) | assumption) | (have e_ := (Kd.S_reads' HO_34.out).1; omega))
                obtain ⟨ve163_0, rfl, ge163_0⟩ := hMe163
                have hv163_0 := hcc163 0 _ rfl
                rw [Nat.add_zero, show ((Kd.slice 5 (Kd.int .u8))).sz = 1 from rfl, Nat.mul_one] at hv163_0
                replace hv163_0 := Option.some.inj (hv163_0.symm.trans hx163_0)
                rw [hv163_0] at ge163_0
                have HL163_0 := Aside0.mk (show Kd.R (Kd.int .u8) 5 _ _ _ _ (rd_L1 t154 x36_2) from ge163_0)
                clear hv163_0 ge163_0
                clear hcc163 hce163
                have HR163_0 := Aside0.mk hi163_0
                have HC163_0 := Aside0.mk hl163_0
                clear hi163_0 hl163_0
                replace p163 := eq_true p163
                replace q163 := eq_true q163
                obtain ⟨Ao29, co29, eo29⟩ := Kd.R_slice HO_8.out
                subst eo29
                try go_wp2
                have n0_ := Aside0.mk (Kd.R_drew HO_8.out)
                have n1_ := Aside0.mk (Kd.R_drew HO_9.out)
                have n2_ := Aside0.mk (Kd.S_drew HO_34.out)
                have n3_ := Aside0.mk (Kd.R_drew HL163_0.out)
                have n4_ := Aside0.mk (Kd.C_drew HR163_0.out)
                have n5_ := Aside0.mk (below_drew1 HB.out)
                clear HO_8
                clear HO_9
                clear HO_34
                clear HL163_0
                clear HR163_0
                clear HB
                have HO_8 := n0_
                have HO_9 := n1_
                have HO_34 := n2_
                have HL163_0 := n3_
                have HR163_0 := n4_
                have HB := n5_
                clear n0_ n1_ n2_ n3_ n4_ n5_
                have p164 : 0 ≤ (x36_2 : Int) := of_decide_eq_true (by first | (with_reducible assumption) | assumption)
                have q164 : x36_2 < (t155.length : Int) := of_decide_eq_true (by first | (with_reducible assumption) | assumption)
                obtain ⟨ad164, e164, hx164_0⟩ := Kd.at_int (Kd.R_reads' HO_8.out).2.2 x36_2 p164 q164
                cases e164
                replace p164 := eq_true p164
                replace q164 := eq_true q164
                have p165 : 0 ≤ (t150 : Int) := of_decide_eq_true (by first | (with_reducible assumption) | assumption)
                have q165 : t150 < ((rd_L1 t154 x36_2).length : Int) := of_decide_eq_true (by first | (with_reducible assumption) | assumption)
                obtain ⟨ad165, e165, hx165_0⟩ := Kd.at_int (by repeat (first | (with_reducible exact HR163_0.out) | (with_reducible refine Kd.C_alloc ?_ _) | (with_reducible refine Kd.C_drewN ?_ _) | (with_reducible refine Kd.C_drew ?_) | exact HR163_0.out)) t150 p165 q165
                cases e165
                replace p165 := eq_true p165
                replace q165 := eq_true q165
                have p28 : 0 ≤ ((rd t155 x36_2) : Int) := of_decide_eq_true (by first | (with_reducible assumption) | assumption)
                have q28 : ((rd t155 x36_2) : Int) < ((x9_2.length : Int) : Int) := of_decide_eq_true (by first | (with_reducible assumption) | assumption)
                obtain ⟨go28, co28, eo28, gb28, gl28, cl28, HG28⟩ := Kd.R_form HO_9.out (by omega)
                (first | cases eo28 | (injection eo28 with ea_ en_ ec_; (first | subst ea_ | (injection ea_ with ea_; subst ea_)); subst ec_; clear en_))
                have GB28 := Aside0.mk gb28
                have GG28 := Aside0.mk HG28
                clear gb28 gl28 HG28
                obtain ⟨hx28_0, hf28_0⟩ := Kd.R_celln 0 HO_9.out ((rd t155 x36_2) : Int) p28 q28
                replace p28 := eq_true p28
                replace q28 := eq_true q28
                have HP31 := Kd.R_putn HO_9.out ((rd t155 x36_2) : Int) (rd (rd_L1 t154 x36_2) t150)
                rw [← Ny166.out] at HP31
                have HQ31 := Aside0.mk HP31
                clear HP31
                refine start_ (n := 11) (S := fun w' => w'.cell? (ad164.add (x36_2).toNat) = some (.int .i64 (rd t155 x36_2)) ∧ w'.cell? (ad165.add (t150).toNat) = some (.int .u8 (rd (rd_L1 t154 x36_2) t150))) (ds := [10]) #[false, false, false, false, false, false, false, false, false, false, false] (by kernel_rfl) rfl rfl ⟨hx164_0, hx165_0⟩ (fun hHeld => ?_); refine with_tabW linear_Solve.tab10 linear_Solve.bits10 (fun HT_ HW_ => ?_)
                generalize wr.drew = w30 at HO_8 HO_9 HO_34 HL163_0 HR163_0 HB GG28 HQ31 hf28_0 hx164_0 hx165_0 hx28_0 hHeld ⊢
                refine pure_ (i := 0) (N := some 46) (v := ?_) (a' := ?_) #[true, false, false, false, false, false, false, false, false, false, false] rfl rfl (any_of HT_.out (by kernel_rfl)) (fun _ _ _ h => h) (Or.inl ⟨by rfl, ?_⟩) ?_ ?_
                rotate_left
                ·intro w'
                 go_simp
                 with_reducible rfl
                rotate_left
                ·simp only [Act.put, List.setIfInBounds_toArray, List.set_cons_zero, List.set_cons_succ, i64_w, i32_w]
                 rfl
                refine pure_ (i := 1) (N := some 47) (v := ?_) (a' := ?_) #[true, true, false, false, false, false, false, false, false, false, false] rfl rfl (any_of HT_.out (by kernel_rfl)) (fun _ _ _ h => h) (Or.inl ⟨by rfl, ?_⟩) ?_ ?_
                rotate_left
                ·intro w'
                 go_simp
                 with_reducible rfl
                rotate_left
                ·simp only [Act.put, List.setIfInBounds_toArray, List.set_cons_zero, List.set_cons_succ, i64_w, i32_w]
                 rfl
                refine pure_ (i := 2) (N := some 48) (v := ?_) (a' := ?_) #[true, true, true, false, false, false, false, false, false, false, false] rfl rfl (any_of HT_.out (by kernel_rfl)) (fun _ _ _ h => h) (Or.inl ⟨by rfl, ?_⟩) ?_ ?_
                rotate_left
                ·intro w'
                 go_simp
                 with_reducible rfl
                rotate_left
                ·simp only [Act.put, List.setIfInBounds_toArray, List.set_cons_zero, List.set_cons_succ, i64_w, i32_w]
                 rfl
                refine pure_ (i := 3) (N := some 49) (v := ?_) (a' := ?_) #[true, true, true, true, false, false, false, false, false, false, false] rfl rfl (any_of HT_.out (by kernel_rfl)) (fun _ _ _ h => h) (Or.inl ⟨by rfl, ?_⟩) ?_ ?_
                rotate_left
                ·intro w'
                 go_simp
                 with_reducible rfl
                rotate_left
                ·simp only [Act.put, List.setIfInBounds_toArray, List.set_cons_zero, List.set_cons_succ, i64_w, i32_w]
                 rfl
                refine pure_ (i := 5) (N := some 51) (v := ?_) (a' := ?_) #[true, true, true, true, false, true, false, false, false, false, false] rfl rfl (any_of HT_.out (by kernel_rfl)) (fun _ _ _ h => h) (Or.inl ⟨by rfl, ?_⟩) ?_ ?_
                rotate_left
                ·intro w'
                 go_simp
                 with_reducible rfl
                rotate_left
                ·simp only [Act.put, List.setIfInBounds_toArray, List.set_cons_zero, List.set_cons_succ, i64_w, i32_w]
                 rfl
                refine pure_ (i := 6) (N := some 52) (v := ?_) (a' := ?_) #[true, true, true, true, false, true, true, false, false, false, false] rfl rfl (any_of HT_.out (by kernel_rfl)) (fun _ _ _ h => h) (Or.inl ⟨by rfl, ?_⟩) ?_ ?_
                rotate_left
                ·intro w'
                 go_simp
                 with_reducible rfl
                rotate_left
                ·simp only [Act.put, List.setIfInBounds_toArray, List.set_cons_zero, List.set_cons_succ, i64_w, i32_w]
                 rfl
                refine pure_ (i := 7) (N := some 53) (v := ?_) (a' := ?_) #[true, true, true, true, false, true, true, true, false, false, false] rfl rfl (any_of HT_.out (by kernel_rfl)) (fun _ _ _ h => h) (Or.inl ⟨by rfl, ?_⟩) ?_ ?_
                rotate_left
                ·intro w'
                 go_simp
                 with_reducible rfl
                rotate_left
                ·simp only [Act.put, List.setIfInBounds_toArray, List.set_cons_zero, List.set_cons_succ, i64_w, i32_w]
                 rfl
                refine take_ (i := 4) (N := some 50) (v := ?_) (a' := ?_) #[true, true, true, true, true, true, true, true, false, false, false] rfl rfl (take_ofW HT_.out HW_.out (by kernel_rfl)) (fun _ _ _ h => h) (Or.inl ⟨by rfl, ?_⟩) hHeld ?_ ?_
                rotate_left
                ·rintro w' ⟨s0, s1⟩
                 go_simp
                 with_reducible rfl
                rotate_left
                ·simp only [Act.put, List.setIfInBounds_toArray, List.set_cons_zero, List.set_cons_succ, i64_w, i32_w]
                 rfl
                refine take_ (i := 8) (N := some 54) (v := ?_) (a' := ?_) #[true, true, true, true, true, true, true, true, true, false, false] rfl rfl (take_ofW HT_.out HW_.out (by kernel_rfl)) (fun _ _ _ h => h) (Or.inl ⟨by rfl, ?_⟩) hHeld ?_ ?_
                rotate_left
                ·rintro w' ⟨s0, s1⟩
                 go_simp
                 with_reducible rfl
                rotate_left
                ·simp only [Act.put, List.setIfInBounds_toArray, List.set_cons_zero, List.set_cons_succ, i64_w, i32_w]
                 rfl
                refine pure_ (i := 9) (N := some 55) (v := ?_) (a' := ?_) #[true, true, true, true, true, true, true, true, true, true, false] rfl rfl (any_of HT_.out (by kernel_rfl)) (fun _ _ _ h => h) (Or.inl ⟨by rfl, ?_⟩) ?_ ?_
                rotate_left
                ·intro w'
                 go_simp
                 with_reducible rfl
                rotate_left
                ·simp only [Act.put, List.setIfInBounds_toArray, List.set_cons_zero, List.set_cons_succ, i64_w, i32_w]
                 rfl
                refine last_ (i := 10) (N := none) #[true, true, true, true, true, true, true, true, true, true, true] rfl rfl (one_of HT_.out (by kernel_rfl)) (by decide) (fun K hK => ?_)
                refine skip_ (w1 := ?_) (by rfl) rfl ?_ ?_
                rotate_left
                ·go_simp
                 rfl
                refine hK.out _ _ ?_
                clear hK K
                refine done_ (done_of HT_.out (by kernel_rfl)) ?_
                try go_wp2
                go_roundg k2
                case measure => have := HJ2.out; have := HK2.out; omega
                case rel => exact ⟨(y166), (wrap64 (x36_2 + 1)), (by first | rfl | (simp; done) | (simp [*]; done)), H', ⟨by have := HJ2.out; have := HK2.out; omega⟩, ⟨by (with_reducible repeat (first | apply Kd.R_alloc | apply Kd.R_drewN | apply Kd.R_drew)); exact Kd.R_mono (Kd.R_far (p := ⟨go28, ((rd t155 x36_2) : Int).toNat, none⟩) (Kd.R_types HO_8.out GG28.out (by decide)) (fun _ hk => hk.2) (.int .u8 (rd (rd_L1 t154 x36_2) t150))) (fun _ hk => trivial)⟩, ⟨by (with_reducible repeat (first | apply Kd.R_alloc | apply Kd.R_drewN | apply Kd.R_drew)); exact HQ31.out⟩, ⟨by (with_reducible repeat (first | apply Kd.S_alloc | apply Kd.S_drewN | apply Kd.S_drew)); exact Kd.S_mono (Kd.S_far (p := ⟨go28, ((rd t155 x36_2) : Int).toNat, none⟩) (Kd.S_mono HO_34.out (fun k_ hk => (⟨hk, fun e_ => hk (by rw [e_]; rfl)⟩ : _ ∧ k_ ≠ go28))) (fun _ hk => hk.2) (.int .u8 (rd (rd_L1 t154 x36_2) t150))) (fun _ hk => hk.1)⟩, ⟨by repeat (first | (with_reducible first | exact HB.out | apply below_alloc | apply pw_below_drewN | apply below_drew1 | refine below_set ?_ GB28.out) | exact HB.out)⟩⟩
               ·rw [if_neg c27] at H
                exact absurd H (by simp)
              ·rw [if_neg c26] at H
               exact absurd H (by simp)
             ·rw [if_neg c25] at H
              exact absurd H (by simp)
            ·rw [if_neg c24] at H
             exact absurd H (by simp)
           ·rw [if_neg c23] at H
            have c23b0 : decide (x36_2 < (t155.length : Int)) = false := decide_eq_false c23
            clear c23
            by_cases c32 : 0 ≤ t150
            ·rw [if_pos c32] at H
             have c32b0 : decide (0 ≤ t150) = true := decide_eq_true c32
             clear c32
             by_cases c33 : t150 < ((rd_L1 t154 x36_2).length : Int)
             ·rw [if_pos c33] at H
              have c33b0 : decide (t150 < ((rd_L1 t154 x36_2).length : Int)) = true := decide_eq_true c33
              clear c33
              by_cases c34 : (rd (rd_L1 t154 x36_2) t150) = 0
              ·rw [if_pos c34] at H
               have c34b0 : ((rd (rd_L1 t154 x36_2) t150) == 0) = true := beq_iff_eq.mpr c34
               have c34b1 : ((rd (rd_L1 t154 x36_2) t150) != 0) = false := bne_eq_false_iff_eq.mpr c34
               clear c34
               have H' := Aside0.mk H
               clear H
               have p163 : 0 ≤ (x36_2 : Int) := of_decide_eq_true (by first | (with_reducible assumption) | assumption)
               have q163 : x36_2 < (t154.length : Int) := of_decide_eq_true (by first | (with_reducible assumption) | assumption)
               obtain ⟨ad163, A163_0, c163_0, e163, hx163_0, hl163_0, hi163_0⟩ := at_L1 (Kd.S_reads' HO_34.out).2.2 x36_2 p163 q163
               cases e163
               obtain ⟨ce163, hce163, hMe163, hcc163⟩ := Kd.S_get HO_34.out [] x36_2 p163 (by first | exact q163 | exact of_decide_eq_true (by first | (with_reducible assumption) | assumption) | (have e_ := (Kd.S_reads' HO_34.out).1; omega))
               obtain ⟨ve163_0, rfl, ge163_0⟩ := hMe163
               have hv163_0 := hcc163 0 _ rfl
               rw [Nat.add_zero, show ((Kd.slice 5 (Kd.int .u8))).sz = 1 from rfl, Nat.mul_one] at hv163_0
               replace hv163_0 := Option.some.inj (hv163_0.symm.trans hx163_0)
               rw [hv163_0] at ge163_0
               have HL163_0 := Aside0.mk (show Kd.R (Kd.int .u8) 5 _ _ _ _ (rd_L1 t154 x36_2) from ge163_0)
               clear hv163_0 ge163_0
               clear hcc163 hce163
               have HR163_0 := Aside0.mk hi163_0
               have HC163_0 := Aside0.mk hl163_0
               clear hi163_0 hl163_0
               replace p163 := eq_true p163
               replace q163 := eq_true q163
               obtain ⟨Ao35, co35, eo35⟩ := Kd.R_slice HO_8.out
               subst eo35
               have p167 : 0 ≤ (t150 : Int) := of_decide_eq_true (by first | (with_reducible assumption) | assumption)
               have q167 : t150 < ((rd_L1 t154 x36_2).length : Int) := of_decide_eq_true (by first | (with_reducible assumption) | assumption)
               obtain ⟨ad167, e167, hx167_0⟩ := Kd.at_int (by repeat (first | (with_reducible exact HR163_0.out) | (with_reducible refine Kd.C_alloc ?_ _) | (with_reducible refine Kd.C_drewN ?_ _) | (with_reducible refine Kd.C_drew ?_) | exact HR163_0.out)) t150 p167 q167
               cases e167
               replace p167 := eq_true p167
               replace q167 := eq_true q167
               go_wp2
               go_roundg k2
               case measure => have := HJ2.out; have := HK2.out; omega
               case rel => exact ⟨(x9_2), (wrap64 (x36_2 + 1)), (by first | rfl | (simp; done) | (simp [*]; done)), H', ⟨by have := HJ2.out; have := HK2.out; omega⟩, ⟨by (with_reducible repeat (first | apply Kd.R_alloc | apply Kd.R_drewN | apply Kd.R_drew)); exact HO_8.out⟩, ⟨by (with_reducible repeat (first | apply Kd.R_alloc | apply Kd.R_drewN | apply Kd.R_drew)); exact HO_9.out⟩, ⟨by (with_reducible repeat (first | apply Kd.S_alloc | apply Kd.S_drewN | apply Kd.S_drew)); exact HO_34.out⟩, ⟨by repeat (first | (with_reducible first | exact HB.out | apply below_alloc | apply pw_below_drewN | apply below_drew1) | exact HB.out)⟩⟩
              ·rw [if_neg c34] at H
               have c34b0 : ((rd (rd_L1 t154 x36_2) t150) == 0) = false := beq_eq_false_iff_ne.mpr c34
               have c34b1 : ((rd (rd_L1 t154 x36_2) t150) != 0) = true := bne_iff_ne.mpr c34
               simp only [Option.some.injEq, Prod.mk.injEq] at H
               obtain ⟨rfl, rfl⟩ := H
               have p163 : 0 ≤ (x36_2 : Int) := of_decide_eq_true (by first | (with_reducible assumption) | assumption)
               have q163 : x36_2 < (t154.length : Int) := of_decide_eq_true (by first | (with_reducible assumption) | assumption)
               obtain ⟨ad163, A163_0, c163_0, e163, hx163_0, hl163_0, hi163_0⟩ := at_L1 (Kd.S_reads' HO_34.out).2.2 x36_2 p163 q163
               cases e163
               obtain ⟨ce163, hce163, hMe163, hcc163⟩ := Kd.S_get HO_34.out [] x36_2 p163 (by first | exact q163 | exact of_decide_eq_true (by first | (with_reducible assumption) | assumption) | (have e_ := (Kd.S_reads' HO_34.out).1; omega))
               obtain ⟨ve163_0, rfl, ge163_0⟩ := hMe163
               have hv163_0 := hcc163 0 _ rfl
               rw [Nat.add_zero, show ((Kd.slice 5 (Kd.int .u8))).sz = 1 from rfl, Nat.mul_one] at hv163_0
               replace hv163_0 := Option.some.inj (hv163_0.symm.trans hx163_0)
               rw [hv163_0] at ge163_0
               have HL163_0 := Aside0.mk (show Kd.R (Kd.int .u8) 5 _ _ _ _ (rd_L1 t154 x36_2) from ge163_0)
               clear hv163_0 ge163_0
               clear hcc163 hce163
               have HR163_0 := Aside0.mk hi163_0
               have HC163_0 := Aside0.mk hl163_0
               clear hi163_0 hl163_0
               replace p163 := eq_true p163
               replace q163 := eq_true q163
               obtain ⟨Ao36, co36, eo36⟩ := Kd.R_slice HO_8.out
               subst eo36
               have p167 : 0 ≤ (t150 : Int) := of_decide_eq_true (by first | (with_reducible assumption) | assumption)
               have q167 : t150 < ((rd_L1 t154 x36_2).length : Int) := of_decide_eq_true (by first | (with_reducible assumption) | assumption)
               obtain ⟨ad167, e167, hx167_0⟩ := Kd.at_int (by repeat (first | (with_reducible exact HR163_0.out) | (with_reducible refine Kd.C_alloc ?_ _) | (with_reducible refine Kd.C_drewN ?_ _) | (with_reducible refine Kd.C_drew ?_) | exact HR163_0.out)) t150 p167 q167
               cases e167
               replace p167 := eq_true p167
               replace q167 := eq_true q167
               go_wp2
               go_ret2
               exact ⟨_, by first | rfl | (simp [errW_none, errW_some] <;> rfl) | (simp [*, errW_none, errW_some] <;> rfl), by first | exact Kd.R_nil _ _ _ _ _ | exact Kd.N_nil _ _ _ _ _ | exact Kd.V_nil _ _ _ _ _ | exact Kd.Q_nil _ _ _ _ _ | exact Kd.S_nil _ _ _ _ _, by repeat (first | (with_reducible first | exact HB.out | apply below_alloc | apply pw_below_drewN | apply below_drew1) | exact HB.out)⟩
             ·rw [if_neg c33] at H
              exact absurd H (by simp)
            ·rw [if_neg c32] at H
             exact absurd H (by simp)
          ·rw [if_neg c22] at H
           exact absurd H (by simp)
         ·rw [if_neg c21] at H
          exact absurd H (by simp)
        ·rw [if_neg c20] at H
         have c20b0 : decide (x36_2 < (t154.length : Int)) = false := decide_eq_false c20
         clear c20
         simp only [Option.some.injEq, Prod.mk.injEq] at H
         obtain ⟨rfl, rfl⟩ := H
         go_wp2
         go_ret2
         exact ⟨_, by first | rfl | (simp [errW_none, errW_some] <;> rfl) | (simp [*, errW_none, errW_some] <;> rfl), by (with_reducible repeat (first | apply Kd.R_alloc | apply Kd.R_drewN | apply Kd.R_drew)); exact HO_9.out, by repeat (first | (with_reducible first | exact HB.out | apply below_alloc | apply pw_below_drewN | apply below_drew1) | exact HB.out)⟩
     ·rw [if_neg c13] at H
      exact absurd H (by simp)
    ·rw [if_neg c12] at H
     exact absurd H (by simp)
def linear_unit.f (a0 : Int) (a1 : Int) : Option (List Int) := if 0 ≤ a0 then (if (a0 : Int).toNat ≤ 281474976710656 then ((some (List.replicate (a0 : Int).toNat 0 : List Int)).bind fun y168 => (if 0 ≤ a1 then (if a1 < (y168.length : Int) then (some (y168.set (a1 : Int).toNat 1)) else (none)) else (none))) else (none)) else (none)
set_option maxHeartbeats 8000000 in
set_option maxRecDepth 100000 in
theorem linear_unit.calls (a0 : Int) (a1 : Int) (r : List Int) (w : World) (h : linear_unit.f a0 a1 = some r) :
 Calls Try.prog 35 #[.int .i64 a0, .int .i64 a1] w fun e w' => ∃ v0_ : Value, e = .returned (v0_) ∧ Kd.R (Kd.int .u8) 5 w' w.heap.size (fun _ => True) v0_ r ∧ Below w.heap.size w w' := by
 have HB := Aside0.mk (Below.refl w.heap.size w)
 have H : (if 0 ≤ a0 then (if (a0 : Int).toNat ≤ 281474976710656 then ((some (List.replicate (a0 : Int).toNat 0 : List Int)).bind fun y168 => (if 0 ≤ a1 then (if a1 < (y168.length : Int) then (some (y168.set (a1 : Int).toNat 1)) else (none)) else (none))) else (none)) else (none)) = some r := h
 clear h
 by_cases c3 : 0 ≤ a0
 ·rw [if_pos c3] at H
  have c3b0 := eq_true c3
  have c3b1 : decide (0 ≤ a0) = true := decide_eq_true c3
  clear c3
  by_cases c4 : (a0 : Int).toNat ≤ 281474976710656
  ·rw [if_pos c4] at H
   have c4b0 := eq_true c4
   have c4b1 : decide ((a0 : Int).toNat ≤ 281474976710656) = true := decide_eq_true c4
   clear c4
   obtain ⟨y168, hy168⟩ : ∃ y_ : List Int, y_ = (List.replicate (a0 : Int).toNat 0) := ⟨_, rfl⟩
   replace H : (if 0 ≤ a1 then (if a1 < (y168.length : Int) then (some (y168.set (a1 : Int).toNat 1)) else (none)) else (none)) = some r := by first | (rw [hy168]; with_reducible exact H) | (have H2_ := (Option.bind_some _ _).symm.trans H; rw [hy168]; with_reducible exact H2_) | (have H2_ := (Option.bind_some _ _).symm.trans H; with_reducible exact H2_) | with_reducible exact H | (rw [hy168]; exact H) | exact H
   have Ny168 := Aside0.mk hy168
   clear hy168
   by_cases c5 : 0 ≤ a1
   ·rw [if_pos c5] at H
    have c5b0 : decide (0 ≤ a1) = true := decide_eq_true c5
    clear c5
    by_cases c6 : a1 < (y168.length : Int)
    ·rw [if_pos c6] at H
     have c6b0 : decide (a1 < (y168.length : Int)) = true := decide_eq_true c6
     clear c6
     obtain ⟨y171, hy171⟩ : ∃ y_ : List Int, y_ = (y168.set (a1 : Int).toNat 1) := ⟨_, rfl⟩
     replace H : (some y171) = some r := by first | (rw [hy171]; with_reducible exact H) | (have H2_ := (Option.bind_some _ _).symm.trans H; rw [hy171]; with_reducible exact H2_) | (have H2_ := (Option.bind_some _ _).symm.trans H; with_reducible exact H2_) | with_reducible exact H | (rw [hy171]; exact H) | exact H
     have Ny171 := Aside0.mk hy171
     clear hy171
     obtain rfl := Option.some.inj H
     go_enter Try.func35, Try.ntmps35
     go_wp2_with (first | ((with_reducible refine gate_dst (N := 7) rfl ?_); refine Kd.R_make (Kd.int .u8) _ 5 rfl (N := 7) rfl 23 _ _ rfl a0 rfl rfl Try.underlying23 (.int .u8 0) 1 info5 rfl (by decide) (by omega) 0 (ok := fun _ => True) (okp := fun _ => True) rfl (fun _ hk => hk) trivial (of_decide_eq_true (by first | (with_reducible assumption) | assumption)) (Nat.le_trans (Nat.mul_le_mul_right _ (of_decide_eq_true (by first | (with_reducible assumption) | assumption) : a0.toNat ≤ 281474976710656)) (by omega)) (Below.refl _ _) (Nat.le_refl _) ?_; intro v169 w8 ho9 hb hg_ hnew_; clear hg_ hnew_; (first | rw [← Ny168.out] at ho9 | (simp only [Int.reduceToNat] at ho9; rw [← Ny168.out] at ho9)); have n0_ := Aside0.mk (Kd.R_lower ho9 (below_size (by repeat (first | (with_reducible first | exact HB.out | apply below_alloc | apply pw_below_drewN | apply below_drew1) | exact HB.out)))); have n1_ := Aside0.mk (below_step (by repeat (first | (with_reducible first | exact HB.out | apply below_alloc | apply pw_below_drewN | apply below_drew1) | exact HB.out)) hb); clear HB; have HO170 := n0_; have HB := n1_; clear n0_ n1_; clear hb ho9; have p7 : 0 ≤ (a1 : Int) := of_decide_eq_true (by first | (with_reducible assumption) | assumption); have q7 : (a1 : Int) < ((y168.length : Int) : Int) := of_decide_eq_true (by first | (with_reducible assumption) | assumption); obtain ⟨go7, co7, eo7, gb7, gl7, cl7, HG7⟩ := Kd.R_form HO170.out (by omega); (first | cases eo7 | (injection eo7 with ea_ en_ ec_; (first | subst ea_ | (injection ea_ with ea_; subst ea_)); subst ec_; clear en_)); have GB7 := Aside0.mk gb7; have GG7 := Aside0.mk HG7; clear gb7 gl7 HG7; obtain ⟨hx7_0, hf7_0⟩ := Kd.R_celln 0 HO170.out (a1 : Int) p7 q7; replace p7 := eq_true p7; replace q7 := eq_true q7; obtain ⟨hy10_, hz10_⟩ := Kd.R_celln 0 HO170.out (a1 : Int) (of_decide_eq_true (by first | (with_reducible assumption) | assumption)) (of_decide_eq_true (by first | (with_reducible assumption) | assumption)); have HP10 := Kd.R_putg HO170.out (a1 : Int) 1) | ((with_reducible refine gate_store (t := 5) (p := 10) rfl ?_); refine store_event (t := 5) (p := 10) (v := ?vo_w11) (w1 := (w8.setCell ⟨go7, (a1 : Int).toNat, none⟩ (.int .u8 1))) ?hg ?ho ?hn ?hr ?_; (case ho => rfl); (case hg => rfl); (case hn => rfl); (case hr => first | (go_simp; done) | (go_simp; rfl)); intro w11 hw; have hg : w8.grownBy w11 (some go7) := (by rw [hw]; exact HP10.2); have hp_ : Kd.R (Kd.int .u8) 5 w11 w.heap.size (fun _ => True) (.slice (some ⟨go7, 0, none⟩) y168.length co7) y171 := (by rw [hw, Ny171.out]; exact HP10.1); clear HP10; have n0_ := Aside0.mk (hp_); have n1_ := Aside0.mk ((by rw [hw]; exact below_set (HB.out) GB7.out : Below w.heap.size w w11)); clear HO170; clear HB; have HO170 := n0_; have HB := n1_; clear n0_ n1_; clear hg hw hp_))
     go_ret
     exact ⟨_, by first | rfl | (simp [errW_none, errW_some] <;> rfl) | (simp [*, errW_none, errW_some] <;> rfl), by (with_reducible repeat (first | apply Kd.R_alloc | apply Kd.R_drewN | apply Kd.R_drew)); exact HO170.out, by repeat (first | (with_reducible first | exact HB.out | apply below_alloc | apply pw_below_drewN | apply below_drew1) | exact HB.out)⟩
    ·rw [if_neg c6] at H
     exact absurd H (by simp)
   ·rw [if_neg c5] at H
    exact absurd H (by simp)
  ·rw [if_neg c4] at H
   exact absurd H (by simp)
 ·rw [if_neg c3] at H
  exact absurd H (by simp)
end Go.Proofs.Ytanknpdibjfmlaa.P
namespace Go.Proofs.Ytanknpdibjfmlaa.P
open Go.RowKit Go.Proofs.YtanknpdibjfmlaaW.PrintWords Go.Proofs.YtanknpdibjfmlaaW.PrintLast Go.Proofs.YtanknpdibjfmlaaW.PrintMore
attribute [local go_sem] max2_int min2_int max_two min_two max_three min_three max_four min_four
set_option linter.unusedVariables false
set_option linter.unusedSimpArgs false
def linear_Inverse.a0 : Nat → Int → Int → List (List Int) → Int → Option (List (List Int))
 | 0, _, _, _, _ => none
 | k + 1, n, m, x, i => if i < m then (if 0 ≤ i then (if i < (x.length : Int) then ((linear_unit.f n i).bind fun y => if (rd_L1 x i).length + y.length < 140737488355328 then linear_Inverse.a0 k n m (x.set i.toNat (rd_L1 x i ++ y)) (wrap64 (i + 1)) else none) else none) else none) else some x
def linear_Inverse.b0 : Nat → Int → Int → List (List Int) → Int → Option (List (List Int))
 | 0, _, _, _, _ => none
 | k + 1, n, m, x, i => if i < m then (if 0 ≤ i then (if i < (x.length : Int) then (if n < ((rd_L1 x i).length : Int) then linear_Inverse.b0 k n m (x.set i.toNat ((rd_L1 x i).drop n.toNat)) (wrap64 (i + 1)) else none) else none) else none) else some x
def linear_Inverse.f (k : Nat) (l0 : List (List Int)) : Option (List (List Int) × Bool) :=
 (linear_Right.f l0).bind fun t => if t = true then ((linear_width.f l0).bind fun wd => if wd = (l0.length : Int) then ((linear_clone.f k l0).bind fun x => (linear_Inverse.a0 k (l0.length : Int) (x.length : Int) x 0).bind fun x1 => (linear_Reduce.f k x1 (l0.length : Int)).bind fun r => if (r.2.length : Int) < (l0.length : Int) then some ([], false) else ((linear_Inverse.b0 k (l0.length : Int) (r.1.length : Int) r.1 0).bind fun x3 => some (x3, true))) else some ([], false)) else some ([], false)
set_option maxHeartbeats 8000000 in
set_option maxRecDepth 100000 in
theorem linear_Inverse.calls (k : Nat) (A0 : Option Addr) (c0 : Nat) (l0 : List (List Int)) (r1 : List (List Int)) (r2 : Bool) (w : World) (hr0 : Kd.C (Kd.slice 5 (Kd.int .u8)) w A0 l0.length l0) (hc0 : l0.length ≤ c0) (h : linear_Inverse.f k l0 = some (r1, r2)) :
 Calls Try.prog 23 #[.slice A0 l0.length c0] w fun e w' => ∃ v0_ : Value, e = .returned (.tuple #[v0_, .bool r2]) ∧ Kd.V (Kd.slice 5 (Kd.int .u8)) 23 w' w.heap.size (fun k_ => (w.heap.size ≤ k_)) v0_ r1 ∧ Below w.heap.size w w' := by
 have HR0 := Aside0.mk hr0
 have HC0 := Aside0.mk hc0
 have HMX := Aside0.mk hr0.2.1
 clear hr0 hc0
 have HB := Aside0.mk (Below.refl w.heap.size w)
 unfold linear_Inverse.f at h
 replace h := Option.bind_eq_some_iff.mp h
 obtain ⟨t, ht, h⟩ := h
 have HT := Aside0.mk ht
 clear ht
 by_cases c1 : t = true
 ·rw [if_pos c1] at h
  subst c1
  replace h := Option.bind_eq_some_iff.mp h
  obtain ⟨wd, hwd, h⟩ := h
  have HW := Aside0.mk hwd
  clear hwd
  by_cases c2 : wd = (l0.length : Int)
  ·rw [if_pos c2] at h
   have c2b : (wd == (l0.length : Int)) = true := by simpa using c2
   have c2c : (wd != (l0.length : Int)) = false := by simp [c2]
   replace h := Option.bind_eq_some_iff.mp h
   obtain ⟨x0, hx, h⟩ := h
   replace h := Option.bind_eq_some_iff.mp h
   obtain ⟨x1, hx1, h⟩ := h
   replace h := Option.bind_eq_some_iff.mp h
   obtain ⟨⟨x2, ps⟩, hx2, h⟩ := h
   simp only at h
   have HX := Aside0.mk hx
   have HX1 := Aside0.mk hx1
   have HX2 := Aside0.mk hx2
   have H' := Aside0.mk h
   clear hx hx1 hx2 h c2
   go_enter Try.func23, Try.ntmps23
   go_wp2_with (first
    | (go_at_call 13; (with_reducible refine (linear_Right.calls _ _ l0 true _ ?side1 HC0.out HT.out).mono ?_); (case side1 => exact HR0.out); rintro e w1 ⟨rfl, hb⟩; have HB1 := Aside0.mk hb; clear hb)
    | (go_at_call 25; (with_reducible refine (linear_width.calls _ _ l0 wd _ ?side1 HC0.out HW.out).mono ?_); (case side1 => exact Kd.C_below HR0.out HB1.out); rintro e w3 ⟨rfl, ⟨n3, rfl⟩⟩)
    | (go_at_call 24; (with_reducible refine (linear_clone.calls k _ _ l0 x0 _ ?side1 HC0.out HX.out).mono ?_); (case side1 => exact Kd.C_drewN (Kd.C_below HR0.out HB1.out) n3); rintro e w2 ⟨v0, rfl, ho, hb⟩; obtain ⟨A5, c5, e5⟩ := Kd.S_slice ho; subst e5; have HO2 := Aside0.mk ho; have HB2 := Aside0.mk hb; clear ho hb))
   obtain ⟨n0, hn0⟩ : ∃ n, x0.length = n := ⟨_, rfl⟩
   have HX1' := Aside0.mk (show linear_Inverse.a0 k (l0.length : Int) (n0 : Int) x0 0 = some x1 from by rw [← hn0]; exact HX1.out)
   have HS2 := Aside0.mk (Kd.S_lower HO2.out (show w.heap.size ≤ (w1.drewN n3).heap.size from HB1.out.size))
   rw [hn0] at HS2 ⊢
   have HBB := Aside0.mk (below_step (pw_below_drewN (below_step HB.out HB1.out) n3) HB2.out)
   clear hn0 HO2 HB HB1 HB2 HX1
   go_loopg [24] k (fun kq v24 w' => ∃ (x : List (List Int)) (i : Int), v24 = .int .i64 i ∧ Aside0 (linear_Inverse.a0 kq (l0.length : Int) (n0 : Int) x i = some x1) ∧ Aside0 (kq ≤ k) ∧ Aside0 (Kd.S (Kd.slice 5 (Kd.int .u8)) 23 w' w.heap.size (fun _ => True) (.slice A5 n0 c5) x) ∧ Aside0 (Below w.heap.size w w'))
   case atStart => exact ⟨x0, 0, rfl, HX1', ⟨Nat.le_refl _⟩, HS2, HBB⟩
   case round =>
    clear HX1' HS2 HBB
    obtain ⟨x, i, rfl, HA, HK1, HS, HB⟩ := hrel
    cases gk with
    | zero => exact absurd HA.out (by simp [linear_Inverse.a0])
    | succ k1 =>
     have H := HA.out
     clear HA
     simp only [linear_Inverse.a0] at H
     have hxn := (Kd.S_reads' HS.out).1
     by_cases t1 : i < (n0 : Int)
     ·rw [if_pos t1] at H
      by_cases t2 : 0 ≤ i
      ·rw [if_pos t2] at H
       by_cases t3 : i < (x.length : Int)
       ·rw [if_pos t3] at H
        replace H := Option.bind_eq_some_iff.mp H
        obtain ⟨y, hy, H⟩ := H
        by_cases t4 : (rd_L1 x i).length + y.length < 140737488355328
        ·rw [if_pos t4] at H
         have HU := Aside0.mk hy
         have H2 := Aside0.mk H
         have HLM := Aside0.mk t4
         have t1b : decide (i < (n0 : Int)) = true := decide_eq_true t1
         obtain ⟨g, rfl⟩ : ∃ g, A5 = some ⟨g, 0, none⟩ := by
          obtain ⟨ad, _, _, e1, _⟩ := at_L1 (Kd.S_reads' HS.out).2.2 i t2 t3
          subst e1
          obtain ⟨g, rfl⟩ := Kd.R_head (Kd.S_R HS.out)
          exact ⟨g, rfl⟩
         obtain ⟨ad, A6, c6, e1, hx6, hl6, hi6⟩ := at_L1 (Kd.S_reads' HS.out).2.2 i t2 t3
         cases e1
         rw [add_plain] at hx6
         have h0i : 0 ≤ i := t2
         have h1i : i < (n0 : Int) := t1
         clear hy H hl6 hi6 t3 t4 hxn
         replace t1 := eq_true t1
         replace t2 := eq_true t2
         go_wp2
         refine start_ (n := 12) (S := fun w' => w'.cell? ⟨g, i.toNat, none⟩ = some (.slice A6 (rd_L1 x i).length c6)) (ds := [9, 11]) #[false, false, false, false, false, false, false, false, false, false, false, false] (by kernel_rfl) rfl rfl (hx6) (fun hHeld => ?_)
         refine pure_ (i := 0) (N := some 27) (v := ?_) (a' := ?_) #[true, false, false, false, false, false, false, false, false, false, false, false] rfl rfl (by kernel_rfl) (fun _ _ _ h => h) (Or.inl ⟨by rfl, ?_⟩) ?_ ?_
         rotate_left
         ·intro w'
          go_simp
          with_reducible rfl
         rotate_left
         ·simp only [Act.put, List.setIfInBounds_toArray, List.set_cons_zero, List.set_cons_succ, i64_w, i32_w]
          rfl
         refine pure_ (i := 1) (N := some 28) (v := ?_) (a' := ?_) #[true, true, false, false, false, false, false, false, false, false, false, false] rfl rfl (by kernel_rfl) (fun _ _ _ h => h) (Or.inl ⟨by rfl, ?_⟩) ?_ ?_
         rotate_left
         ·intro w'
          go_simp
          with_reducible rfl
         rotate_left
         ·simp only [Act.put, List.setIfInBounds_toArray, List.set_cons_zero, List.set_cons_succ, i64_w, i32_w]
          rfl
         refine pure_ (i := 2) (N := some 29) (v := ?_) (a' := ?_) #[true, true, true, false, false, false, false, false, false, false, false, false] rfl rfl (by kernel_rfl) (fun _ _ _ h => h) (Or.inl ⟨by rfl, ?_⟩) ?_ ?_
         rotate_left
         ·intro w'
          go_simp
          with_reducible rfl
         rotate_left
         ·simp only [Act.put, List.setIfInBounds_toArray, List.set_cons_zero, List.set_cons_succ, i64_w, i32_w]
          rfl
         refine pure_ (i := 3) (N := some 30) (v := ?_) (a' := ?_) #[true, true, true, true, false, false, false, false, false, false, false, false] rfl rfl (by kernel_rfl) (fun _ _ _ h => h) (Or.inl ⟨by rfl, ?_⟩) ?_ ?_
         rotate_left
         ·intro w'
          go_simp
          with_reducible rfl
         rotate_left
         ·simp only [Act.put, List.setIfInBounds_toArray, List.set_cons_zero, List.set_cons_succ, i64_w, i32_w]
          rfl
         refine pure_ (i := 4) (N := some 31) (v := ?_) (a' := ?_) #[true, true, true, true, true, false, false, false, false, false, false, false] rfl rfl (by kernel_rfl) (fun _ _ _ h => h) (Or.inl ⟨by rfl, ?_⟩) ?_ ?_
         rotate_left
         ·intro w'
          go_simp
          with_reducible rfl
         rotate_left
         ·simp only [Act.put, List.setIfInBounds_toArray, List.set_cons_zero, List.set_cons_succ, i64_w, i32_w]
          rfl
         refine pure_ (i := 6) (N := some 33) (v := ?_) (a' := ?_) #[true, true, true, true, true, false, true, false, false, false, false, false] rfl rfl (by kernel_rfl) (fun _ _ _ h => h) (Or.inl ⟨by rfl, ?_⟩) ?_ ?_
         rotate_left
         ·intro w'
          go_simp
          with_reducible rfl
         rotate_left
         ·simp only [Act.put, List.setIfInBounds_toArray, List.set_cons_zero, List.set_cons_succ, i64_w, i32_w]
          rfl
         refine pure_ (i := 7) (N := some 34) (v := ?_) (a' := ?_) #[true, true, true, true, true, false, true, true, false, false, false, false] rfl rfl (by kernel_rfl) (fun _ _ _ h => h) (Or.inl ⟨by rfl, ?_⟩) ?_ ?_
         rotate_left
         ·intro w'
          go_simp
          with_reducible rfl
         rotate_left
         ·simp only [Act.put, List.setIfInBounds_toArray, List.set_cons_zero, List.set_cons_succ, i64_w, i32_w]
          rfl
         refine take_ (i := 5) (N := some 32) (v := ?_) (a' := ?_) #[true, true, true, true, true, true, true, true, false, false, false, false] rfl rfl (by kernel_rfl) (fun _ _ _ h => h) (Or.inl ⟨by rfl, ?_⟩) hHeld ?_ ?_
         rotate_left
         ·intro w' s0
          go_simp
          with_reducible rfl
         rotate_left
         ·simp only [Act.put, List.setIfInBounds_toArray, List.set_cons_zero, List.set_cons_succ, i64_w, i32_w]
          rfl
         refine one_ (i := 8) (N := some 35) #[true, true, true, true, true, true, true, true, true, false, false, false] rfl rfl (by kernel_rfl) (by decide) (fun K hK => ?_)
         refine goes_ Try.func35 (by kernel_rfl) rfl #[.int .i64 (l0.length : Int), .int .i64 i] (by rfl) rfl rfl (by simp only [List.map_toArray, List.map_cons, List.map_nil]; rfl) ?_
         with_reducible refine (linear_unit.calls _ _ y _ HU.out).mono ?_
         rintro e w7 ⟨v7, rfl, ho7, hb7⟩
         refine ⟨_, rfl, ?_⟩
         obtain ⟨A7, c7, e7⟩ := Kd.R_slice ho7
         subst e7
         have HS7 := Aside0.mk (Kd.S_below (Kd.S_drew HS.out) hb7)
         have HB7 := Aside0.mk (below_step (below_drew1 HB.out) hb7)
         have hx7 : w7.cell? ⟨g, i.toNat, none⟩ = some (.slice A6 (rd_L1 x i).length c6) := (hb7.cell (World.block_lt_of_cell? _ _ hHeld)).trans hHeld
         obtain ⟨oki, c, hcl, hM, hcc, hoki, hH⟩ := Kd.S_lend HS7.out [] i h0i h1i
         obtain ⟨vv, rfl, hR⟩ := Mm.M_one hM
         have hvv := hcc 0 vv rfl
         simp only [Nat.add_zero, show (Kd.slice 5 (Kd.int .u8)).sz = 1 from rfl, Nat.mul_one] at hvv
         obtain rfl : vv = .slice A6 (rd_L1 x i).length c6 := Option.some.inj (hvv.symm.trans hx7)
         have HR := Aside0.mk (show Kd.R (Kd.int .u8) 5 w7 w.heap.size oki (.slice A6 (rd_L1 x i).length c6) (rd_L1 x i) from hR)
         have HH := Aside0.mk (Kd.H_widen hH)
         have HO7 := Aside0.mk ho7
         clear hR hH hM hcc hcl hoki ho7
         refine hK.out _ _ (hx7) (fun hHeld => ?_)
         clear hK K
         refine norm_ (a' := ?_) ?_ ?_
         rotate_left
         ·show Act.put _ (some 35) _ = _
          simp only [Act.put, List.setIfInBounds_toArray, List.set_cons_zero, List.set_cons_succ, i64_w, i32_w]
          rfl
         refine last_ (i := 9) (N := some 36) #[true, true, true, true, true, true, true, true, true, true, false, false] rfl rfl (by kernel_rfl) (by decide) (fun K hK => ?_)
         refine Kd.R_append_rows_step (Kd.int .u8) (w0 := w) w.heap.size (by rfl) (.tmp 32) (.tmp 35) 23 5 (.int .u8 0) 1 rfl Try.underlying23 info5 rfl (by decide) (by omega) (.slice A6 (rd_L1 x i).length c6) (rd_L1 x i) y A7 y.length c7 (fun k => oki k ∨ True ∧ w7.heap.size ≤ k) (fun _ => False) rfl rfl (Kd.R_mono HR.out (fun _ hk => .inl hk)) (Kd.R_reads' HO7.out).2.2 (fun _ _ h => h) (fun _ h => h.elim) (fun _ hk => .inr ⟨trivial, hk⟩) HB7.out (below_size HB7.out) (by have := HLM.out; omega) ?_
         intro v8 w8 ho8 hb8 hg8 _
         obtain ⟨A8, c8, e8⟩ := Kd.R_slice ho8
         subst e8
         have HH8 := Aside0.mk (Kd.H_grown HH.out hg8 (fun k e => .inl (HR.out.1 k e)))
         have HO8 := Aside0.mk ho8
         have HB8 := Aside0.mk hb8
         obtain ⟨hcq, hfq⟩ := Kd.H_at HH8.out h0i h1i
         have hq : w8.cell? ⟨g, i.toNat, none⟩ = some (.slice A6 (rd_L1 x i).length c6) := by
          have := hcq 0 _ rfl
          simpa [show (Kd.slice 5 (Kd.int .u8)).sz = 1 from rfl] using this
         have hfq' : w8.frozen? ⟨g, i.toNat, none⟩ = false := by
          have := hfq 0
          simpa [show (Kd.slice 5 (Kd.int .u8)).sz = 1 from rfl] using this
         clear hcq hfq ho8 hb8 hg8
         refine hK.out _ _ ?_
         clear hK K
         refine norm_ (a' := ?_) ?_ ?_
         rotate_left
         ·show Act.put _ (some 36) _ = _
          simp only [Act.put, List.setIfInBounds_toArray, List.set_cons_zero, List.set_cons_succ, i64_w, i32_w]
          rfl
         refine pure_ (i := 10) (N := some 37) (v := ?_) (a' := ?_) #[true, true, true, true, true, true, true, true, true, true, true, false] rfl rfl (by kernel_rfl) (fun _ _ _ h => h) (Or.inl ⟨by rfl, ?_⟩) ?_ ?_
         rotate_left
         ·intro w'
          go_simp
          with_reducible rfl
         rotate_left
         ·simp only [Act.put, List.setIfInBounds_toArray, List.set_cons_zero, List.set_cons_succ, i64_w, i32_w]
          rfl
         refine last_ (i := 11) (N := none) #[true, true, true, true, true, true, true, true, true, true, true, true] rfl rfl (by kernel_rfl) (by decide) (fun K hK => ?_)
         refine skip_ (w1 := ?_) (by rfl) rfl ?_ ?_
         rotate_left
         ·go_simp
          rfl
         refine hK.out _ _ ?_
         clear hK K
         refine done_ (by kernel_rfl) ?_
         have HS9 := Aside0.mk (Mm.H_put HH8.out h0i h1i HO8.out).1
         have HB9 := Aside0.mk (below_set (j := i.toNat) (v := .slice A8 (rd_L1 x i ++ y).length c8) HB8.out (Kd.S_base HS.out g rfl))
         simp only [List.length_append] at HS9 HB9
         go_wp2
         go_roundg k1
         case measure => have := HK1.out; omega
         case rel => exact ⟨_, _, (by first | rfl | (simp; done) | (simp [*]; done)), H2, ⟨by have := HK1.out; omega⟩, HS9, HB9⟩
        ·rw [if_neg t4] at H; exact absurd H (by simp)
       ·rw [if_neg t3] at H; exact absurd H (by simp)
      ·rw [if_neg t2] at H; exact absurd H (by simp)
     ·rw [if_neg t1] at H
      have t1b : decide (i < (n0 : Int)) = false := decide_eq_false t1
      obtain rfl := Option.some.inj H
      clear H t1
      have HCx := Aside0.mk (Kd.S_reads' HS.out)
      have HN0 := Aside0.mk hxn
      clear hxn
      obtain ⟨A0', n0', c5', hval⟩ : ∃ A n c, (Value.slice A5 n0 c5) = .slice A n c := ⟨_, _, _, rfl⟩
      have HRD := Aside0.mk (linear_Reduce.calls k A5 c5 x (l0.length : Int) x2 ps wr (by exact (Kd.S_reads' HS.out).2.2) (by have := HN0.out; have := (Kd.S_reads' HS.out).2.1; omega) HX2.out)
      rw [← HN0.out] at HRD
      by_cases d1 : (ps.length : Int) < (l0.length : Int)
      ·have hh := H'.out
       rw [if_pos d1] at hh
       obtain ⟨rfl, rfl⟩ := Prod.mk.inj (Option.some.inj hh)
       have d1b : decide ((ps.length : Int) < (l0.length : Int)) = true := decide_eq_true d1
       have d1c : decide (ps.length < l0.length) = true := decide_eq_true (by omega)
       clear hh d1
       go_wp2_with (first
        | (go_at_call 11; (with_reducible refine HRD.out.mono ?_); rintro e w5 ⟨v5, v6, rfl, hs, ho, hb⟩; obtain ⟨A9, c9, e9⟩ := Kd.S_slice hs; subst e9; obtain ⟨A10, c10, e10⟩ := Kd.R_slice ho; subst e10; have HB5 := Aside0.mk (below_step HB.out hb); clear hb))
       go_ret2
       exact ⟨_, rfl, Kd.V_mk (c := 0) (Nat.le_refl _) (Kd.F_nil _ _ _), HB5.out⟩
      ·have hh := H'.out
       rw [if_neg d1] at hh
       replace hh := Option.bind_eq_some_iff.mp hh
       obtain ⟨x3, hx3, hh⟩ := hh
       obtain ⟨rfl, rfl⟩ := Prod.mk.inj (Option.some.inj hh)
       have d1b : decide ((ps.length : Int) < (l0.length : Int)) = false := decide_eq_false d1
       have d1c : decide (ps.length < l0.length) = false := decide_eq_false (by omega)
       have HX3 := Aside0.mk hx3
       clear hh d1 hx3
       go_wp2_with (first
        | (go_at_call 11; (with_reducible refine HRD.out.mono ?_); rintro e w5 ⟨v5, v6, rfl, hs, ho, hb⟩; obtain ⟨A9, c9, e9⟩ := Kd.S_slice hs; subst e9; obtain ⟨A10, c10, e10⟩ := Kd.R_slice ho; subst e10; have HN5 := Aside0.mk (Kd.N_mono (Kd.R_N (Kd.R_lower (Kd.R_bound (Kd.S_R hs)) HB.out.size)) (ok' := fun k_ => w.heap.size ≤ k_) (fun k_ hk => Nat.le_trans HB.out.size hk.2.1)); have HB5 := Aside0.mk (below_step HB.out hb); clear hb hs ho))
       obtain ⟨n2, hn2⟩ : ∃ n, x2.length = n := ⟨_, rfl⟩
       have HX3' := Aside0.mk (show linear_Inverse.b0 k (l0.length : Int) (n2 : Int) x2 0 = some x3 from by rw [← hn2]; exact HX3.out)
       rw [hn2] at HN5 ⊢
       clear hn2 HX3 HB HS HRD
       go_loopg [51] k (fun kq v51 w' => ∃ (x : List (List Int)) (i : Int), v51 = .int .i64 i ∧ Aside0 (linear_Inverse.b0 kq (l0.length : Int) (n2 : Int) x i = some x3) ∧ Aside0 (kq ≤ k) ∧ Aside0 (Kd.N (Kd.slice 5 (Kd.int .u8)) 23 w' w.heap.size (fun k_ => w.heap.size ≤ k_) (.slice A9 n2 c9) x) ∧ Aside0 (Below w.heap.size w w'))
       case atStart => exact ⟨x2, 0, rfl, HX3', ⟨Nat.le_refl _⟩, HN5, HB5⟩
       case round =>
        clear HX3' HN5 HB5
        obtain ⟨x, i, rfl, HA, HK2, HS, HB⟩ := hrel
        cases gk with
        | zero => exact absurd HA.out (by simp [linear_Inverse.b0])
        | succ k2 =>
         have H := HA.out
         clear HA
         simp only [linear_Inverse.b0] at H
         have hxn := (Kd.N_reads' HS.out).1
         by_cases t1 : i < (n2 : Int)
         ·rw [if_pos t1] at H
          by_cases t2 : 0 ≤ i
          ·rw [if_pos t2] at H
           by_cases t3 : i < (x.length : Int)
           ·rw [if_pos t3] at H
            by_cases t4 : (l0.length : Int) < ((rd_L1 x i).length : Int)
            ·rw [if_pos t4] at H
             have H2 := Aside0.mk H
             have t1b : decide (i < (n2 : Int)) = true := decide_eq_true t1
             obtain ⟨ad, A6, c6, e1, hx6, hl6, hi6⟩ := at_L1 (Kd.N_reads' HS.out).2.2 i t2 t3
             subst e1
             obtain ⟨g, cap9, e9, hgb, _, _⟩ := Kd.N_form HS.out (by omega)
             injection e9 with e9 e9b e9c
             injection e9 with e9
             subst e9
             clear e9b e9c
             rw [add_plain] at hx6
             obtain ⟨ad6, e6, _⟩ := Kd.at_int hi6 0 (by omega) (by omega)
             subst e6
             obtain ⟨_, _, _, _, hfr⟩ := Kd.N_elem HS.out ([] : List Int) i t2 (by omega)
             have hf6 : wr.frozen? ⟨g, i.toNat, none⟩ = false := by
              have := hfr 0
              simpa [show (Kd.slice 5 (Kd.int .u8)).sz = 1 from rfl] using this
             have HNC := Aside0.mk (Mm.N_cut HS.out i.toNat (by omega) (show wr.cell? ⟨g, i.toNat, none⟩ = some (.slice (some ad6) (rd_L1 x i).length c6) from hx6) l0.length (show l0.length < (rd_L1 x i).length by omega)).1
             have t4n : l0.length ≤ (rd_L1 x i).length := by omega
             have t4m : l0.length < (rd_L1 x i).length := by omega
             have t4c : (rd_L1 x i).length ≤ c6 := hl6
             clear H hl6 hi6 t3 hxn hfr
             replace t1 := eq_true t1
             replace t2 := eq_true t2
             go_wp2
             have HB9 := Aside0.mk (below_set (j := i.toNat) (v := .slice (some (ad6.add l0.length)) ((rd_L1 x i).length - l0.length) (c6 - l0.length)) HB.out hgb)
             have HN9 := Aside0.mk (show Kd.N (Kd.slice 5 (Kd.int .u8)) 23 (wr.setCell ⟨g, i.toNat, none⟩ (.slice (some (ad6.add l0.length)) ((rd_L1 x i).length - l0.length) (c6 - l0.length))) w.heap.size (fun k_ => w.heap.size ≤ k_) (.slice (some ⟨g, 0, none⟩) n2 c9) (x.set i.toNat ((rd_L1 x i).drop l0.length)) from by
              have := HNC.out
              rw [show l0.length * (Kd.int .u8).sz = l0.length from Nat.mul_one _] at this
              exact this)
             have H3 := Aside0.mk (show linear_Inverse.b0 k2 (l0.length : Int) (n2 : Int) (x.set i.toNat ((rd_L1 x i).drop l0.length)) (wrap64 (i + 1)) = some x3 from by
              have := H2.out
              rwa [Int.toNat_natCast] at this)
             go_roundg k2
             case measure => have := HK2.out; omega
             case rel => exact ⟨_, _, (by first | rfl | (simp; done) | (simp [*]; done)), H3, ⟨by have := HK2.out; omega⟩, HN9, HB9⟩
            ·rw [if_neg t4] at H; exact absurd H (by simp)
           ·rw [if_neg t3] at H; exact absurd H (by simp)
          ·rw [if_neg t2] at H; exact absurd H (by simp)
         ·rw [if_neg t1] at H
          have t1b : decide (i < (n2 : Int)) = false := decide_eq_false t1
          obtain rfl := Option.some.inj H
          clear H t1 hxn
          go_wp2
          go_ret2
          exact ⟨_, rfl, Kd.N_V HS.out, HB.out⟩
  ·rw [if_neg c2] at h
   obtain ⟨rfl, rfl⟩ := Prod.mk.inj (Option.some.inj h)
   have c2b : (wd == (l0.length : Int)) = false := by simpa using c2
   have c2c : (wd != (l0.length : Int)) = true := by simpa using c2
   clear h c2
   go_enter Try.func23, Try.ntmps23
   go_wp2_with (first
    | (go_at_call 13; (with_reducible refine (linear_Right.calls _ _ l0 true _ ?side1 HC0.out HT.out).mono ?_); (case side1 => exact HR0.out); rintro e w1 ⟨rfl, hb⟩; have HB1 := Aside0.mk hb; clear hb)
    | (go_at_call 25; (with_reducible refine (linear_width.calls _ _ l0 wd _ ?side1 HC0.out HW.out).mono ?_); (case side1 => exact Kd.C_below HR0.out HB1.out); rintro e w3 ⟨rfl, ⟨n3, rfl⟩⟩))
   go_ret2
   exact ⟨_, rfl, Kd.V_mk (c := 0) (Nat.le_refl _) (Kd.F_nil _ _ _), pw_below_drewN HB1.out n3⟩
 ·rw [if_neg c1] at h
  obtain ⟨rfl, rfl⟩ := Prod.mk.inj (Option.some.inj h)
  have hf : t = false := by simpa using c1
  subst hf
  clear h
  go_enter Try.func23, Try.ntmps23
  go_wp2_with (first | (go_at_call 13; (with_reducible refine (linear_Right.calls _ _ l0 false _ ?side1 HC0.out HT.out).mono ?_); (case side1 => exact HR0.out); rintro e w1 ⟨rfl, hb⟩; have HB1 := Aside0.mk hb; clear hb))
  go_ret2
  exact ⟨_, rfl, Kd.V_mk (c := 0) (Nat.le_refl _) (Kd.F_nil _ _ _), HB1.out⟩
theorem linear_Inverse.mono_a0 : ∀ k, ∀ y0 y1 y2 y3, LeO (linear_Inverse.a0 k y0 y1 y2 y3) (linear_Inverse.a0 (k + 1) y0 y1 y2 y3)
 | 0 => fun _ _ _ _ r h => by simp [linear_Inverse.a0] at h
 | k + 1 => by
  have ih0 := linear_Inverse.mono_a0 k
  intro y0 y1 y2 y3
  unfold linear_Inverse.a0
  repeat' first
   | (with_reducible exact ih0 _ _ _ _)
   | (with_reducible exact LeO.refl _)
   | (with_reducible exact LeO.none _)
   | (with_reducible refine LeO.ite ?_ ?_)
   | (with_reducible refine LeO.bind ?_ (fun _ => ?_))
theorem linear_Inverse.mono_b0 : ∀ k, ∀ y0 y1 y2 y3, LeO (linear_Inverse.b0 k y0 y1 y2 y3) (linear_Inverse.b0 (k + 1) y0 y1 y2 y3)
 | 0 => fun _ _ _ _ r h => by simp [linear_Inverse.b0] at h
 | k + 1 => by
  have ih0 := linear_Inverse.mono_b0 k
  intro y0 y1 y2 y3
  unfold linear_Inverse.b0
  repeat' first
   | (with_reducible exact ih0 _ _ _ _)
   | (with_reducible exact LeO.refl _)
   | (with_reducible exact LeO.none _)
   | (with_reducible refine LeO.ite ?_ ?_)
   | (with_reducible refine LeO.bind ?_ (fun _ => ?_))
theorem linear_Inverse.mono : ∀ a0 k, LeO (linear_Inverse.f k a0) (linear_Inverse.f (k + 1) a0) := by
 intro a0 k
 unfold linear_Inverse.f
 repeat' first
  | (with_reducible exact linear_Inverse.mono_a0 _ _ _ _ _)
  | (with_reducible exact linear_Inverse.mono_b0 _ _ _ _ _)
  | (with_reducible exact linear_clone.mono _ _)
  | (with_reducible exact linear_Reduce.mono _ _ _)
  | (with_reducible exact LeO.refl _)
  | (with_reducible exact LeO.none _)
  | (with_reducible refine LeO.ite ?_ ?_)
  | (with_reducible refine LeO.bind ?_ (fun _ => ?_))
def footlockerlaw03_alive.f (k : Nat)  : Option (Bool) := (some (([(([1, 1] : List Int)), (([1, 2] : List Int))] : List (List Int)) : List (List Int))).bind fun y178 => ((linear_Solve.f k y178 (([3, 0] : List Int))).bind fun bt184 => ((linear_Solve.f k (([(([1] : List Int)), (([1] : List Int))] : List (List Int))) (([1, 2] : List Int))).bind fun bt200 => ((linear_Inverse.f k y178).bind fun bt204 => ((linear_Reduce.f k y178 2).bind fun bt208 => (if (bt184.1.length : Int) = 2 then (if (bt204.1.length : Int) = 2 then (if (bt208.1.length : Int) = 2 then (if bt184.2 = true then (if (strOfNums bt184.1).toList = ([2, 1] : List UInt8) then (if bt200.2 = true then (none) else (if bt204.2 = true then (if (bt208.2.length : Int) = 2 then ((linear_Rank.f k y178).bind fun t214 => (if t214 = 2 then ((linear_Right.f y178).bind fun t215 => (if t215 = true then ((linear_Right.f (([(([1] : List Int)), (([] : List Int))] : List (List Int)))).bind fun t225 => (if t225 = true then (none) else ((linear_Times.f k y178 bt184.1).bind fun t226 => (some ((strOfNums t226).toList == ([3, 0] : List UInt8)))))) else (none))) else (none))) else (none)) else (none))) else (none)) else (none)) else (none)) else (none)) else (none))))))
theorem footlockerlaw03_alive.mono : ∀ k, LeO (footlockerlaw03_alive.f k ) (footlockerlaw03_alive.f (k + 1) ) := by
 intro  k
 unfold footlockerlaw03_alive.f
 repeat' first
  | (with_reducible exact linear_Inverse.mono _ _)
  | (with_reducible exact linear_Rank.mono _ _)
  | (with_reducible exact linear_Reduce.mono _ _ _)
  | (with_reducible exact linear_Solve.mono _ _ _)
  | (with_reducible exact linear_Times.mono _ _ _)
  | (with_reducible exact LeO.refl _)
  | (with_reducible exact LeO.none _)
  | (with_reducible refine LeO.ite ?_ ?_)
  | (with_reducible refine LeO.bind ?_ (fun _ => ?_))
  | exact linear_Inverse.mono _ _
  | exact linear_Rank.mono _ _
  | exact linear_Reduce.mono _ _ _
  | exact linear_Solve.mono _ _ _
  | exact linear_Times.mono _ _ _
  | exact LeO.none _
  | refine LeO.ite ?_ ?_
  | refine LeO.bind ?_ (fun _ => ?_)
set_option maxHeartbeats 8000000 in
set_option maxRecDepth 100000 in
theorem footlockerlaw03_alive.calls (k : Nat)  (r : Bool) (w : World) (h : footlockerlaw03_alive.f k  = some r) :
 Calls Try.prog 9 #[] w fun e w' => e = .returned (.bool r) ∧ Below w.heap.size w w' := by
 have HB := Aside0.mk (Below.refl w.heap.size w)
 have H : ((some (([(([1, 1] : List Int)), (([1, 2] : List Int))] : List (List Int)) : List (List Int))).bind fun y178 => ((linear_Solve.f k y178 (([3, 0] : List Int))).bind fun bt184 => ((linear_Solve.f k (([(([1] : List Int)), (([1] : List Int))] : List (List Int))) (([1, 2] : List Int))).bind fun bt200 => ((linear_Inverse.f k y178).bind fun bt204 => ((linear_Reduce.f k y178 2).bind fun bt208 => (if (bt184.1.length : Int) = 2 then (if (bt204.1.length : Int) = 2 then (if (bt208.1.length : Int) = 2 then (if bt184.2 = true then (if (strOfNums bt184.1).toList = ([2, 1] : List UInt8) then (if bt200.2 = true then (none) else (if bt204.2 = true then (if (bt208.2.length : Int) = 2 then ((linear_Rank.f k y178).bind fun t214 => (if t214 = 2 then ((linear_Right.f y178).bind fun t215 => (if t215 = true then ((linear_Right.f (([(([1] : List Int)), (([] : List Int))] : List (List Int)))).bind fun t225 => (if t225 = true then (none) else ((linear_Times.f k y178 bt184.1).bind fun t226 => (some ((strOfNums t226).toList == ([3, 0] : List UInt8)))))) else (none))) else (none))) else (none)) else (none))) else (none)) else (none)) else (none)) else (none)) else (none))))))) = some r := h
 clear h
 obtain ⟨y172, hy172⟩ : ∃ y_ : List Int, y_ = (([1, 1] : List Int)) := ⟨_, rfl⟩
 replace H : ((some (([y172, (([1, 2] : List Int))] : List (List Int)) : List (List Int))).bind fun y178 => ((linear_Solve.f k y178 (([3, 0] : List Int))).bind fun bt184 => ((linear_Solve.f k (([(([1] : List Int)), (([1] : List Int))] : List (List Int))) (([1, 2] : List Int))).bind fun bt200 => ((linear_Inverse.f k y178).bind fun bt204 => ((linear_Reduce.f k y178 2).bind fun bt208 => (if (bt184.1.length : Int) = 2 then (if (bt204.1.length : Int) = 2 then (if (bt208.1.length : Int) = 2 then (if bt184.2 = true then (if (strOfNums bt184.1).toList = ([2, 1] : List UInt8) then (if bt200.2 = true then (none) else (if bt204.2 = true then (if (bt208.2.length : Int) = 2 then ((linear_Rank.f k y178).bind fun t214 => (if t214 = 2 then ((linear_Right.f y178).bind fun t215 => (if t215 = true then ((linear_Right.f (([(([1] : List Int)), (([] : List Int))] : List (List Int)))).bind fun t225 => (if t225 = true then (none) else ((linear_Times.f k y178 bt184.1).bind fun t226 => (some ((strOfNums t226).toList == ([3, 0] : List UInt8)))))) else (none))) else (none))) else (none)) else (none))) else (none)) else (none)) else (none)) else (none)) else (none))))))) = some r := by first | (rw [hy172]; with_reducible exact H) | (have H2_ := (Option.bind_some _ _).symm.trans H; rw [hy172]; with_reducible exact H2_) | (have H2_ := (Option.bind_some _ _).symm.trans H; with_reducible exact H2_) | with_reducible exact H | (rw [hy172]; exact H) | exact H
 have Ny172 := Aside0.mk hy172
 clear hy172
 obtain ⟨y175, hy175⟩ : ∃ y_ : List Int, y_ = (([1, 2] : List Int)) := ⟨_, rfl⟩
 replace H : ((some (([y172, y175] : List (List Int)) : List (List Int))).bind fun y178 => ((linear_Solve.f k y178 (([3, 0] : List Int))).bind fun bt184 => ((linear_Solve.f k (([(([1] : List Int)), (([1] : List Int))] : List (List Int))) (([1, 2] : List Int))).bind fun bt200 => ((linear_Inverse.f k y178).bind fun bt204 => ((linear_Reduce.f k y178 2).bind fun bt208 => (if (bt184.1.length : Int) = 2 then (if (bt204.1.length : Int) = 2 then (if (bt208.1.length : Int) = 2 then (if bt184.2 = true then (if (strOfNums bt184.1).toList = ([2, 1] : List UInt8) then (if bt200.2 = true then (none) else (if bt204.2 = true then (if (bt208.2.length : Int) = 2 then ((linear_Rank.f k y178).bind fun t214 => (if t214 = 2 then ((linear_Right.f y178).bind fun t215 => (if t215 = true then ((linear_Right.f (([(([1] : List Int)), (([] : List Int))] : List (List Int)))).bind fun t225 => (if t225 = true then (none) else ((linear_Times.f k y178 bt184.1).bind fun t226 => (some ((strOfNums t226).toList == ([3, 0] : List UInt8)))))) else (none))) else (none))) else (none)) else (none))) else (none)) else (none)) else (none)) else (none)) else (none))))))) = some r := by first | (rw [hy175]; with_reducible exact H) | (have H2_ := (Option.bind_some _ _).symm.trans H; rw [hy175]; with_reducible exact H2_) | (have H2_ := (Option.bind_some _ _).symm.trans H; with_reducible exact H2_) | with_reducible exact H | (rw [hy175]; exact H) | exact H
 have Ny175 := Aside0.mk hy175
 clear hy175
 obtain ⟨y178, hy178⟩ : ∃ y_ : List (List Int), y_ = (([y172, y175] : List (List Int))) := ⟨_, rfl⟩
 replace H : ((linear_Solve.f k y178 (([3, 0] : List Int))).bind fun bt184 => ((linear_Solve.f k (([(([1] : List Int)), (([1] : List Int))] : List (List Int))) (([1, 2] : List Int))).bind fun bt200 => ((linear_Inverse.f k y178).bind fun bt204 => ((linear_Reduce.f k y178 2).bind fun bt208 => (if (bt184.1.length : Int) = 2 then (if (bt204.1.length : Int) = 2 then (if (bt208.1.length : Int) = 2 then (if bt184.2 = true then (if (strOfNums bt184.1).toList = ([2, 1] : List UInt8) then (if bt200.2 = true then (none) else (if bt204.2 = true then (if (bt208.2.length : Int) = 2 then ((linear_Rank.f k y178).bind fun t214 => (if t214 = 2 then ((linear_Right.f y178).bind fun t215 => (if t215 = true then ((linear_Right.f (([(([1] : List Int)), (([] : List Int))] : List (List Int)))).bind fun t225 => (if t225 = true then (none) else ((linear_Times.f k y178 bt184.1).bind fun t226 => (some ((strOfNums t226).toList == ([3, 0] : List UInt8)))))) else (none))) else (none))) else (none)) else (none))) else (none)) else (none)) else (none)) else (none)) else (none)))))) = some r := by first | (rw [hy178]; with_reducible exact H) | (have H2_ := (Option.bind_some _ _).symm.trans H; rw [hy178]; with_reducible exact H2_) | (have H2_ := (Option.bind_some _ _).symm.trans H; with_reducible exact H2_) | with_reducible exact H | (rw [hy178]; exact H) | exact H
 have Ny178 := Aside0.mk hy178
 clear hy178
 obtain ⟨y181, hy181⟩ : ∃ y_ : List Int, y_ = (([3, 0] : List Int)) := ⟨_, rfl⟩
 replace H : ((linear_Solve.f k y178 y181).bind fun bt184 => ((linear_Solve.f k (([(([1] : List Int)), (([1] : List Int))] : List (List Int))) (([1, 2] : List Int))).bind fun bt200 => ((linear_Inverse.f k y178).bind fun bt204 => ((linear_Reduce.f k y178 2).bind fun bt208 => (if (bt184.1.length : Int) = 2 then (if (bt204.1.length : Int) = 2 then (if (bt208.1.length : Int) = 2 then (if bt184.2 = true then (if (strOfNums bt184.1).toList = ([2, 1] : List UInt8) then (if bt200.2 = true then (none) else (if bt204.2 = true then (if (bt208.2.length : Int) = 2 then ((linear_Rank.f k y178).bind fun t214 => (if t214 = 2 then ((linear_Right.f y178).bind fun t215 => (if t215 = true then ((linear_Right.f (([(([1] : List Int)), (([] : List Int))] : List (List Int)))).bind fun t225 => (if t225 = true then (none) else ((linear_Times.f k y178 bt184.1).bind fun t226 => (some ((strOfNums t226).toList == ([3, 0] : List UInt8)))))) else (none))) else (none))) else (none)) else (none))) else (none)) else (none)) else (none)) else (none)) else (none)))))) = some r := by first | (rw [hy181]; with_reducible exact H) | (have H2_ := (Option.bind_some _ _).symm.trans H; rw [hy181]; with_reducible exact H2_) | (have H2_ := (Option.bind_some _ _).symm.trans H; with_reducible exact H2_) | with_reducible exact H | (rw [hy181]; exact H) | exact H
 have Ny181 := Aside0.mk hy181
 clear hy181
 replace H := Option.bind_eq_some_iff.mp H
 obtain ⟨⟨t184, t185⟩, A10, H⟩ := H
 replace H : ((linear_Solve.f k (([(([1] : List Int)), (([1] : List Int))] : List (List Int))) (([1, 2] : List Int))).bind fun bt200 => ((linear_Inverse.f k y178).bind fun bt204 => ((linear_Reduce.f k y178 2).bind fun bt208 => (if (t184.length : Int) = 2 then (if (bt204.1.length : Int) = 2 then (if (bt208.1.length : Int) = 2 then (if t185 = true then (if (strOfNums t184).toList = ([2, 1] : List UInt8) then (if bt200.2 = true then (none) else (if bt204.2 = true then (if (bt208.2.length : Int) = 2 then ((linear_Rank.f k y178).bind fun t214 => (if t214 = 2 then ((linear_Right.f y178).bind fun t215 => (if t215 = true then ((linear_Right.f (([(([1] : List Int)), (([] : List Int))] : List (List Int)))).bind fun t225 => (if t225 = true then (none) else ((linear_Times.f k y178 t184).bind fun t226 => (some ((strOfNums t226).toList == ([3, 0] : List UInt8)))))) else (none))) else (none))) else (none)) else (none))) else (none)) else (none)) else (none)) else (none)) else (none))))) = some r := H
 have A1 := Aside0.mk A10
 clear A10
 obtain ⟨y188, hy188⟩ : ∃ y_ : List Int, y_ = (([1] : List Int)) := ⟨_, rfl⟩
 replace H : ((linear_Solve.f k (([y188, (([1] : List Int))] : List (List Int))) (([1, 2] : List Int))).bind fun bt200 => ((linear_Inverse.f k y178).bind fun bt204 => ((linear_Reduce.f k y178 2).bind fun bt208 => (if (t184.length : Int) = 2 then (if (bt204.1.length : Int) = 2 then (if (bt208.1.length : Int) = 2 then (if t185 = true then (if (strOfNums t184).toList = ([2, 1] : List UInt8) then (if bt200.2 = true then (none) else (if bt204.2 = true then (if (bt208.2.length : Int) = 2 then ((linear_Rank.f k y178).bind fun t214 => (if t214 = 2 then ((linear_Right.f y178).bind fun t215 => (if t215 = true then ((linear_Right.f (([(([1] : List Int)), (([] : List Int))] : List (List Int)))).bind fun t225 => (if t225 = true then (none) else ((linear_Times.f k y178 t184).bind fun t226 => (some ((strOfNums t226).toList == ([3, 0] : List UInt8)))))) else (none))) else (none))) else (none)) else (none))) else (none)) else (none)) else (none)) else (none)) else (none))))) = some r := by first | (rw [hy188]; with_reducible exact H) | (have H2_ := (Option.bind_some _ _).symm.trans H; rw [hy188]; with_reducible exact H2_) | (have H2_ := (Option.bind_some _ _).symm.trans H; with_reducible exact H2_) | with_reducible exact H | (rw [hy188]; exact H) | exact H
 have Ny188 := Aside0.mk hy188
 clear hy188
 obtain ⟨y191, hy191⟩ : ∃ y_ : List Int, y_ = (([1] : List Int)) := ⟨_, rfl⟩
 replace H : ((linear_Solve.f k (([y188, y191] : List (List Int))) (([1, 2] : List Int))).bind fun bt200 => ((linear_Inverse.f k y178).bind fun bt204 => ((linear_Reduce.f k y178 2).bind fun bt208 => (if (t184.length : Int) = 2 then (if (bt204.1.length : Int) = 2 then (if (bt208.1.length : Int) = 2 then (if t185 = true then (if (strOfNums t184).toList = ([2, 1] : List UInt8) then (if bt200.2 = true then (none) else (if bt204.2 = true then (if (bt208.2.length : Int) = 2 then ((linear_Rank.f k y178).bind fun t214 => (if t214 = 2 then ((linear_Right.f y178).bind fun t215 => (if t215 = true then ((linear_Right.f (([(([1] : List Int)), (([] : List Int))] : List (List Int)))).bind fun t225 => (if t225 = true then (none) else ((linear_Times.f k y178 t184).bind fun t226 => (some ((strOfNums t226).toList == ([3, 0] : List UInt8)))))) else (none))) else (none))) else (none)) else (none))) else (none)) else (none)) else (none)) else (none)) else (none))))) = some r := by first | (rw [hy191]; with_reducible exact H) | (have H2_ := (Option.bind_some _ _).symm.trans H; rw [hy191]; with_reducible exact H2_) | (have H2_ := (Option.bind_some _ _).symm.trans H; with_reducible exact H2_) | with_reducible exact H | (rw [hy191]; exact H) | exact H
 have Ny191 := Aside0.mk hy191
 clear hy191
 obtain ⟨y194, hy194⟩ : ∃ y_ : List (List Int), y_ = (([y188, y191] : List (List Int))) := ⟨_, rfl⟩
 replace H : ((linear_Solve.f k y194 (([1, 2] : List Int))).bind fun bt200 => ((linear_Inverse.f k y178).bind fun bt204 => ((linear_Reduce.f k y178 2).bind fun bt208 => (if (t184.length : Int) = 2 then (if (bt204.1.length : Int) = 2 then (if (bt208.1.length : Int) = 2 then (if t185 = true then (if (strOfNums t184).toList = ([2, 1] : List UInt8) then (if bt200.2 = true then (none) else (if bt204.2 = true then (if (bt208.2.length : Int) = 2 then ((linear_Rank.f k y178).bind fun t214 => (if t214 = 2 then ((linear_Right.f y178).bind fun t215 => (if t215 = true then ((linear_Right.f (([(([1] : List Int)), (([] : List Int))] : List (List Int)))).bind fun t225 => (if t225 = true then (none) else ((linear_Times.f k y178 t184).bind fun t226 => (some ((strOfNums t226).toList == ([3, 0] : List UInt8)))))) else (none))) else (none))) else (none)) else (none))) else (none)) else (none)) else (none)) else (none)) else (none))))) = some r := by first | (rw [hy194]; with_reducible exact H) | (have H2_ := (Option.bind_some _ _).symm.trans H; rw [hy194]; with_reducible exact H2_) | (have H2_ := (Option.bind_some _ _).symm.trans H; with_reducible exact H2_) | with_reducible exact H | (rw [hy194]; exact H) | exact H
 have Ny194 := Aside0.mk hy194
 clear hy194
 obtain ⟨y197, hy197⟩ : ∃ y_ : List Int, y_ = (([1, 2] : List Int)) := ⟨_, rfl⟩
 replace H : ((linear_Solve.f k y194 y197).bind fun bt200 => ((linear_Inverse.f k y178).bind fun bt204 => ((linear_Reduce.f k y178 2).bind fun bt208 => (if (t184.length : Int) = 2 then (if (bt204.1.length : Int) = 2 then (if (bt208.1.length : Int) = 2 then (if t185 = true then (if (strOfNums t184).toList = ([2, 1] : List UInt8) then (if bt200.2 = true then (none) else (if bt204.2 = true then (if (bt208.2.length : Int) = 2 then ((linear_Rank.f k y178).bind fun t214 => (if t214 = 2 then ((linear_Right.f y178).bind fun t215 => (if t215 = true then ((linear_Right.f (([(([1] : List Int)), (([] : List Int))] : List (List Int)))).bind fun t225 => (if t225 = true then (none) else ((linear_Times.f k y178 t184).bind fun t226 => (some ((strOfNums t226).toList == ([3, 0] : List UInt8)))))) else (none))) else (none))) else (none)) else (none))) else (none)) else (none)) else (none)) else (none)) else (none))))) = some r := by first | (rw [hy197]; with_reducible exact H) | (have H2_ := (Option.bind_some _ _).symm.trans H; rw [hy197]; with_reducible exact H2_) | (have H2_ := (Option.bind_some _ _).symm.trans H; with_reducible exact H2_) | with_reducible exact H | (rw [hy197]; exact H) | exact H
 have Ny197 := Aside0.mk hy197
 clear hy197
 replace H := Option.bind_eq_some_iff.mp H
 obtain ⟨⟨t200, t201⟩, A20, H⟩ := H
 replace H : ((linear_Inverse.f k y178).bind fun bt204 => ((linear_Reduce.f k y178 2).bind fun bt208 => (if (t184.length : Int) = 2 then (if (bt204.1.length : Int) = 2 then (if (bt208.1.length : Int) = 2 then (if t185 = true then (if (strOfNums t184).toList = ([2, 1] : List UInt8) then (if t201 = true then (none) else (if bt204.2 = true then (if (bt208.2.length : Int) = 2 then ((linear_Rank.f k y178).bind fun t214 => (if t214 = 2 then ((linear_Right.f y178).bind fun t215 => (if t215 = true then ((linear_Right.f (([(([1] : List Int)), (([] : List Int))] : List (List Int)))).bind fun t225 => (if t225 = true then (none) else ((linear_Times.f k y178 t184).bind fun t226 => (some ((strOfNums t226).toList == ([3, 0] : List UInt8)))))) else (none))) else (none))) else (none)) else (none))) else (none)) else (none)) else (none)) else (none)) else (none)))) = some r := H
 have A2 := Aside0.mk A20
 clear A20
 replace H := Option.bind_eq_some_iff.mp H
 obtain ⟨⟨t204, t207⟩, A30, H⟩ := H
 replace H : ((linear_Reduce.f k y178 2).bind fun bt208 => (if (t184.length : Int) = 2 then (if (t204.length : Int) = 2 then (if (bt208.1.length : Int) = 2 then (if t185 = true then (if (strOfNums t184).toList = ([2, 1] : List UInt8) then (if t201 = true then (none) else (if t207 = true then (if (bt208.2.length : Int) = 2 then ((linear_Rank.f k y178).bind fun t214 => (if t214 = 2 then ((linear_Right.f y178).bind fun t215 => (if t215 = true then ((linear_Right.f (([(([1] : List Int)), (([] : List Int))] : List (List Int)))).bind fun t225 => (if t225 = true then (none) else ((linear_Times.f k y178 t184).bind fun t226 => (some ((strOfNums t226).toList == ([3, 0] : List UInt8)))))) else (none))) else (none))) else (none)) else (none))) else (none)) else (none)) else (none)) else (none)) else (none))) = some r := H
 have A3 := Aside0.mk A30
 clear A30
 replace H := Option.bind_eq_some_iff.mp H
 obtain ⟨⟨t208, t209⟩, A40, H⟩ := H
 replace H : (if (t184.length : Int) = 2 then (if (t204.length : Int) = 2 then (if (t208.length : Int) = 2 then (if t185 = true then (if (strOfNums t184).toList = ([2, 1] : List UInt8) then (if t201 = true then (none) else (if t207 = true then (if (t209.length : Int) = 2 then ((linear_Rank.f k y178).bind fun t214 => (if t214 = 2 then ((linear_Right.f y178).bind fun t215 => (if t215 = true then ((linear_Right.f (([(([1] : List Int)), (([] : List Int))] : List (List Int)))).bind fun t225 => (if t225 = true then (none) else ((linear_Times.f k y178 t184).bind fun t226 => (some ((strOfNums t226).toList == ([3, 0] : List UInt8)))))) else (none))) else (none))) else (none)) else (none))) else (none)) else (none)) else (none)) else (none)) else (none)) = some r := H
 have A4 := Aside0.mk A40
 clear A40
 by_cases c5 : (t184.length : Int) = 2
 ·rw [if_pos c5] at H
  have c5b0 : ((t184.length : Int) == 2) = true := beq_iff_eq.mpr c5
  have c5b1 : ((t184.length : Int) != 2) = false := bne_eq_false_iff_eq.mpr c5
  clear c5
  by_cases c6 : (t204.length : Int) = 2
  ·rw [if_pos c6] at H
   have c6b0 : ((t204.length : Int) == 2) = true := beq_iff_eq.mpr c6
   have c6b1 : ((t204.length : Int) != 2) = false := bne_eq_false_iff_eq.mpr c6
   clear c6
   by_cases c7 : (t208.length : Int) = 2
   ·rw [if_pos c7] at H
    have c7b0 : ((t208.length : Int) == 2) = true := beq_iff_eq.mpr c7
    have c7b1 : ((t208.length : Int) != 2) = false := bne_eq_false_iff_eq.mpr c7
    clear c7
    by_cases c8 : t185 = true
    ·subst c8
     have H1 : (if (strOfNums t184).toList = ([2, 1] : List UInt8) then (if t201 = true then (none) else (if t207 = true then (if (t209.length : Int) = 2 then ((linear_Rank.f k y178).bind fun t214 => (if t214 = 2 then ((linear_Right.f y178).bind fun t215 => (if t215 = true then ((linear_Right.f (([(([1] : List Int)), (([] : List Int))] : List (List Int)))).bind fun t225 => (if t225 = true then (none) else ((linear_Times.f k y178 t184).bind fun t226 => (some ((strOfNums t226).toList == ([3, 0] : List UInt8)))))) else (none))) else (none))) else (none)) else (none))) else (none)) = some r := by rw [if_pos rfl] at H; exact H
     clear H
     have H := H1
     clear H1
     by_cases c9 : (strOfNums t184).toList = ([2, 1] : List UInt8)
     ·rw [if_pos c9] at H
      have c9b0 : ((strOfNums t184).toList == ([2, 1] : List UInt8)) = true := beq_iff_eq.mpr c9
      have c9b1 : ((strOfNums t184).toList != ([2, 1] : List UInt8)) = false := bne_eq_false_iff_eq.mpr c9
      clear c9
      by_cases c10 : t201 = true
      ·subst c10
       have H1 : (none) = some r := by rw [if_pos rfl] at H; exact H
       clear H
       have H := H1
       clear H1
       exact absurd H (by simp)
      ·replace c10 := Bool.eq_false_iff.mpr c10
       subst c10
       have H1 : (if t207 = true then (if (t209.length : Int) = 2 then ((linear_Rank.f k y178).bind fun t214 => (if t214 = 2 then ((linear_Right.f y178).bind fun t215 => (if t215 = true then ((linear_Right.f (([(([1] : List Int)), (([] : List Int))] : List (List Int)))).bind fun t225 => (if t225 = true then (none) else ((linear_Times.f k y178 t184).bind fun t226 => (some ((strOfNums t226).toList == ([3, 0] : List UInt8)))))) else (none))) else (none))) else (none)) else (none)) = some r := by rw [if_neg (show ¬ (false = true) by decide)] at H; exact H
       clear H
       have H := H1
       clear H1
       by_cases c11 : t207 = true
       ·subst c11
        have H1 : (if (t209.length : Int) = 2 then ((linear_Rank.f k y178).bind fun t214 => (if t214 = 2 then ((linear_Right.f y178).bind fun t215 => (if t215 = true then ((linear_Right.f (([(([1] : List Int)), (([] : List Int))] : List (List Int)))).bind fun t225 => (if t225 = true then (none) else ((linear_Times.f k y178 t184).bind fun t226 => (some ((strOfNums t226).toList == ([3, 0] : List UInt8)))))) else (none))) else (none))) else (none)) = some r := by rw [if_pos rfl] at H; exact H
        clear H
        have H := H1
        clear H1
        by_cases c12 : (t209.length : Int) = 2
        ·rw [if_pos c12] at H
         have c12b0 : ((t209.length : Int) == 2) = true := beq_iff_eq.mpr c12
         have c12b1 : ((t209.length : Int) != 2) = false := bne_eq_false_iff_eq.mpr c12
         clear c12
         replace H := Option.bind_eq_some_iff.mp H
         obtain ⟨t214, A130, H⟩ := H
         replace H : (if t214 = 2 then ((linear_Right.f y178).bind fun t215 => (if t215 = true then ((linear_Right.f (([(([1] : List Int)), (([] : List Int))] : List (List Int)))).bind fun t225 => (if t225 = true then (none) else ((linear_Times.f k y178 t184).bind fun t226 => (some ((strOfNums t226).toList == ([3, 0] : List UInt8)))))) else (none))) else (none)) = some r := H
         have A13 := Aside0.mk A130
         clear A130
         by_cases c14 : t214 = 2
         ·rw [if_pos c14] at H
          have c14b0 : (t214 == 2) = true := beq_iff_eq.mpr c14
          have c14b1 : (t214 != 2) = false := bne_eq_false_iff_eq.mpr c14
          clear c14
          replace H := Option.bind_eq_some_iff.mp H
          obtain ⟨t215, A150, H⟩ := H
          replace H : (if t215 = true then ((linear_Right.f (([(([1] : List Int)), (([] : List Int))] : List (List Int)))).bind fun t225 => (if t225 = true then (none) else ((linear_Times.f k y178 t184).bind fun t226 => (some ((strOfNums t226).toList == ([3, 0] : List UInt8)))))) else (none)) = some r := H
          have A15 := Aside0.mk A150
          clear A150
          by_cases c16 : t215 = true
          ·subst c16
           have H1 : ((linear_Right.f (([(([1] : List Int)), (([] : List Int))] : List (List Int)))).bind fun t225 => (if t225 = true then (none) else ((linear_Times.f k y178 t184).bind fun t226 => (some ((strOfNums t226).toList == ([3, 0] : List UInt8)))))) = some r := by rw [if_pos rfl] at H; exact H
           clear H
           have H := H1
           clear H1
           obtain ⟨y216, hy216⟩ : ∃ y_ : List Int, y_ = (([1] : List Int)) := ⟨_, rfl⟩
           replace H : ((linear_Right.f (([y216, (([] : List Int))] : List (List Int)))).bind fun t225 => (if t225 = true then (none) else ((linear_Times.f k y178 t184).bind fun t226 => (some ((strOfNums t226).toList == ([3, 0] : List UInt8)))))) = some r := by first | (rw [hy216]; with_reducible exact H) | (have H2_ := (Option.bind_some _ _).symm.trans H; rw [hy216]; with_reducible exact H2_) | (have H2_ := (Option.bind_some _ _).symm.trans H; with_reducible exact H2_) | with_reducible exact H | (rw [hy216]; exact H) | exact H
           have Ny216 := Aside0.mk hy216
           clear hy216
           obtain ⟨y219, hy219⟩ : ∃ y_ : List Int, y_ = (([] : List Int)) := ⟨_, rfl⟩
           replace H : ((linear_Right.f (([y216, y219] : List (List Int)))).bind fun t225 => (if t225 = true then (none) else ((linear_Times.f k y178 t184).bind fun t226 => (some ((strOfNums t226).toList == ([3, 0] : List UInt8)))))) = some r := by first | (rw [hy219]; with_reducible exact H) | (have H2_ := (Option.bind_some _ _).symm.trans H; rw [hy219]; with_reducible exact H2_) | (have H2_ := (Option.bind_some _ _).symm.trans H; with_reducible exact H2_) | with_reducible exact H | (rw [hy219]; exact H) | exact H
           have Ny219 := Aside0.mk hy219
           clear hy219
           obtain ⟨y222, hy222⟩ : ∃ y_ : List (List Int), y_ = (([y216, y219] : List (List Int))) := ⟨_, rfl⟩
           replace H : ((linear_Right.f y222).bind fun t225 => (if t225 = true then (none) else ((linear_Times.f k y178 t184).bind fun t226 => (some ((strOfNums t226).toList == ([3, 0] : List UInt8)))))) = some r := by first | (rw [hy222]; with_reducible exact H) | (have H2_ := (Option.bind_some _ _).symm.trans H; rw [hy222]; with_reducible exact H2_) | (have H2_ := (Option.bind_some _ _).symm.trans H; with_reducible exact H2_) | with_reducible exact H | (rw [hy222]; exact H) | exact H
           have Ny222 := Aside0.mk hy222
           clear hy222
           replace H := Option.bind_eq_some_iff.mp H
           obtain ⟨t225, A170, H⟩ := H
           replace H : (if t225 = true then (none) else ((linear_Times.f k y178 t184).bind fun t226 => (some ((strOfNums t226).toList == ([3, 0] : List UInt8))))) = some r := H
           have A17 := Aside0.mk A170
           clear A170
           by_cases c18 : t225 = true
           ·subst c18
            have H1 : (none) = some r := by rw [if_pos rfl] at H; exact H
            clear H
            have H := H1
            clear H1
            exact absurd H (by simp)
           ·replace c18 := Bool.eq_false_iff.mpr c18
            subst c18
            have H1 : ((linear_Times.f k y178 t184).bind fun t226 => (some ((strOfNums t226).toList == ([3, 0] : List UInt8)))) = some r := by rw [if_neg (show ¬ (false = true) by decide)] at H; exact H
            clear H
            have H := H1
            clear H1
            replace H := Option.bind_eq_some_iff.mp H
            obtain ⟨t226, A190, H⟩ := H
            replace H : (some ((strOfNums t226).toList == ([3, 0] : List UInt8))) = some r := H
            have A19 := Aside0.mk A190
            clear A190
            obtain rfl := Option.some.inj H
            go_enter Try.func9, Try.ntmps9
            go_wp2_with (first | ((with_reducible refine gate_dst (N := 10) rfl ?_); (try (refine gate_guard (by rfl) ?_; dsimp only)); refine Kd.R_lit (Kd.int .u8) _ 5 ?hg (N := 10) ?hd (xs := ([1, 1] : List Int)) (inner := [.int .u8 1, .int .u8 1]) (ok := fun _ => True) (okp := fun _ => True) ?hr ?hp (fun _ hk => hk) trivial (Below.refl _ _) (Nat.le_refl _) (by simp) ?_; (case hd => rfl); (case hg => rfl); (case hr => first | (go_simp; done) | (go_simp; rfl)); (case hp => exact (Reps.one (show Kd.M (Kd.int .u8) _ _ _ 1 [.int .u8 1] from rfl) (Reps.one (show Kd.M (Kd.int .u8) _ _ _ 1 [.int .u8 1] from rfl) (Reps.none _ _)))); intro v173 w20 ho21 hb hg_ hnew_; clear hg_ hnew_; (first | rw [← Ny172.out] at ho21 | (simp only [Int.reduceToNat] at ho21; rw [← Ny172.out] at ho21)); have n0_ := Aside0.mk (Kd.R_lower ho21 (below_size (by repeat (first | (with_reducible first | exact HB.out | apply below_alloc | apply pw_below_drewN | apply below_drew1) | exact HB.out)))); have n1_ := Aside0.mk (below_step (by repeat (first | (with_reducible first | exact HB.out | apply below_alloc | apply pw_below_drewN | apply below_drew1) | exact HB.out)) hb); clear HB; have HO174 := n0_; have HB := n1_; clear n0_ n1_; clear hb ho21) | ((with_reducible refine gate_dst (N := 11) rfl ?_); (try (refine gate_guard (by rfl) ?_; dsimp only)); refine Kd.R_lit (Kd.int .u8) _ 5 ?hg (N := 11) ?hd (xs := ([1, 2] : List Int)) (inner := [.int .u8 1, .int .u8 2]) (ok := fun _ => True) (okp := fun _ => True) ?hr ?hp (fun _ hk => hk) trivial (Below.refl _ _) (Nat.le_refl _) (by simp) ?_; (case hd => rfl); (case hg => rfl); (case hr => first | (go_simp; done) | (go_simp; rfl)); (case hp => exact (Reps.one (show Kd.M (Kd.int .u8) _ _ _ 1 [.int .u8 1] from rfl) (Reps.one (show Kd.M (Kd.int .u8) _ _ _ 2 [.int .u8 2] from rfl) (Reps.none _ _)))); intro v176 w22 ho23 hb hg_ hnew_; clear hg_ hnew_; (first | rw [← Ny175.out] at ho23 | (simp only [Int.reduceToNat] at ho23; rw [← Ny175.out] at ho23)); have n0_ := Aside0.mk (Kd.R_elder' (by (with_reducible repeat (first | apply Kd.R_alloc | apply Kd.R_drewN | apply Kd.R_drew)); exact HO174.out) (Kd.R_base ho23) hb); have n1_ := Aside0.mk (Kd.R_lower (Kd.R_new' ho23 (Kd.R_lt (by (with_reducible repeat (first | apply Kd.R_alloc | apply Kd.R_drewN | apply Kd.R_drew)); exact HO174.out))) (below_size (by repeat (first | (with_reducible first | exact HB.out | apply below_alloc | apply pw_below_drewN | apply below_drew1) | exact HB.out)))); have n2_ := Aside0.mk (below_step (by repeat (first | (with_reducible first | exact HB.out | apply below_alloc | apply pw_below_drewN | apply below_drew1) | exact HB.out)) hb); clear HO174; clear HB; have HO174 := n0_; have HO177 := n1_; have HB := n2_; clear n0_ n1_ n2_; clear hb ho23; obtain ⟨Ao24, co24, eo24⟩ := Kd.R_slice HO174.out; subst eo24; obtain ⟨Ao25, co25, eo25⟩ := Kd.R_slice HO177.out; subst eo25) | ((with_reducible refine gate_dst (N := 12) rfl ?_); (try (refine gate_guard (by rfl) ?_; dsimp only)); refine Kd.N_lit (Kd.slice 5 (Kd.int .u8)) _ 23 ?hg (N' := 12) ?hd (xs := ([y172, y175] : List (List Int))) (inner := [.slice Ao24 y172.length co24, .slice Ao25 y175.length co25]) (ok := (fun _ => True)) (okp := (fun _ => True)) ?hr ?hp (fun _ hk => hk) ((show ∀ k_, w22.heap.size ≤ k_ → (fun _ => True) k_ from fun k_ hk => trivial) _ (Nat.le_refl _)) (Below.refl _ _) (Nat.le_refl _) (by simp) ?_; (case hd => rfl); (case hg => rfl); (case hr => first | (go_simp; done) | (go_simp; rfl)); (case hp => exact (Reps.one (show Kd.FK (Kd.slice 5 (Kd.int .u8)) _ _ y172 [.slice Ao24 y172.length co24] from (Kd.FK_slice_mk (Kd.R_reads' (Kd.R_mono (ok' := (fun _ => True)) (HO174.out) (fun k_ hk => trivial))).2.1 (Kd.R_F (Kd.R_mono (ok' := (fun _ => True)) (HO174.out) (fun k_ hk => trivial))))) (Reps.one (show Kd.FK (Kd.slice 5 (Kd.int .u8)) _ _ y175 [.slice Ao25 y175.length co25] from (Kd.FK_slice_mk (Kd.R_reads' (Kd.R_mono (ok' := (fun _ => True)) (HO177.out) (fun k_ hk => trivial))).2.1 (Kd.R_F (Kd.R_mono (ok' := (fun _ => True)) (HO177.out) (fun k_ hk => trivial))))) (Reps.none _ _)))); intro v179 w26 ho27 hb hg_ hnew_; clear hg_ hnew_; (first | rw [← Ny178.out] at ho27 | (simp only [Int.reduceToNat] at ho27; rw [← Ny178.out] at ho27)); have n0_ := Aside0.mk (Kd.N_lower ho27 (below_size (by repeat (first | (with_reducible first | exact HB.out | apply below_alloc | apply pw_below_drewN | apply below_drew1) | exact HB.out)))); have n1_ := Aside0.mk (below_step (by repeat (first | (with_reducible first | exact HB.out | apply below_alloc | apply pw_below_drewN | apply below_drew1) | exact HB.out)) hb); clear HB; clear HO174; clear HO177; have HO180 := n0_; have HB := n1_; clear n0_ n1_; clear hb ho27) | ((with_reducible refine gate_dst (N := 15) rfl ?_); (try (refine gate_guard (by rfl) ?_; dsimp only)); refine Kd.R_lit (Kd.int .u8) _ 5 ?hg (N := 15) ?hd (xs := ([3, 0] : List Int)) (inner := [.int .u8 3, .int .u8 0]) (ok := fun _ => True) (okp := fun _ => True) ?hr ?hp (fun _ hk => hk) trivial (Below.refl _ _) (Nat.le_refl _) (by simp) ?_; (case hd => rfl); (case hg => rfl); (case hr => first | (go_simp; done) | (go_simp; rfl)); (case hp => exact (Reps.one (show Kd.M (Kd.int .u8) _ _ _ 3 [.int .u8 3] from rfl) (Reps.one (show Kd.M (Kd.int .u8) _ _ _ 0 [.int .u8 0] from rfl) (Reps.none _ _)))); intro v182 w28 ho29 hb hg_ hnew_; clear hg_ hnew_; (first | rw [← Ny181.out] at ho29 | (simp only [Int.reduceToNat] at ho29; rw [← Ny181.out] at ho29)); have n0_ := Aside0.mk (Kd.N_elder' (by (with_reducible repeat (first | apply Kd.N_alloc | apply Kd.N_drewN | apply Kd.N_drew)); exact HO180.out) (Kd.R_base ho29) hb); have n1_ := Aside0.mk (Kd.R_lower ho29 (below_size (by repeat (first | (with_reducible first | exact HB.out | apply below_alloc | apply pw_below_drewN | apply below_drew1) | exact HB.out)))); have n2_ := Aside0.mk (below_step (by repeat (first | (with_reducible first | exact HB.out | apply below_alloc | apply pw_below_drewN | apply below_drew1) | exact HB.out)) hb); clear HO180; clear HB; have HO180 := n0_; have HO183 := n1_; have HB := n2_; clear n0_ n1_ n2_; clear hb ho29; obtain ⟨Ao30, co30, eo30⟩ := Kd.N_slice HO180.out; subst eo30; obtain ⟨Ao31, co31, eo31⟩ := Kd.R_slice HO183.out; subst eo31) | ((with_reducible refine gate_callee (f := 21) rfl ?_); refine goesL_ (some 16) rfl rfl Try.func21 (by kernel_rfl) rfl #[.slice Ao30 y178.length co30, .slice Ao31 y181.length co31] rfl (by (try simp only [List.map_toArray, List.map_cons, List.map_nil]); first | done | rfl | (simp only [List.length_drop, List.length_take]; rfl)) ?_; (with_reducible refine (linear_Solve.calls k _ _ y178 _ _ y181 t184 true _ ?side1 ?side2 ?side3 ?side4 A1.out).mono ?_); (case side1 => repeat (first | exact (Kd.N_reads' HO180.out).2.2 | (with_reducible refine Kd.C_alloc ?_ _) | (with_reducible refine Kd.C_drewN ?_ _) | (with_reducible refine Kd.C_drew ?_))); (case side2 => exact (Kd.N_reads' HO180.out).2.1); (case side3 => repeat (first | exact (Kd.R_reads' HO183.out).2.2 | (with_reducible refine Kd.C_alloc ?_ _) | (with_reducible refine Kd.C_drewN ?_ _) | (with_reducible refine Kd.C_drew ?_))); (case side4 => exact (Kd.R_reads' HO183.out).2.1); rintro e w32 ⟨v186, rfl, ho0, hb⟩; refine ⟨_, rfl, ?_⟩; have n0_ := Aside0.mk (Kd.N_elder' (by (with_reducible repeat (first | apply Kd.N_alloc | apply Kd.N_drewN | apply Kd.N_drew)); exact HO180.out) (Kd.R_base ho0) hb); have n1_ := Aside0.mk (Kd.R_elder' (by (with_reducible repeat (first | apply Kd.R_alloc | apply Kd.R_drewN | apply Kd.R_drew)); exact HO183.out) (Kd.R_base ho0) hb); have n2_ := Aside0.mk (Kd.R_lower (Kd.R_new' ho0 (Kd.R_lt (by (with_reducible repeat (first | apply Kd.R_alloc | apply Kd.R_drewN | apply Kd.R_drew)); exact HO183.out))) (below_size (by repeat (first | (with_reducible first | exact HB.out | apply below_alloc | apply pw_below_drewN | apply below_drew1) | exact HB.out)))); have n3_ := Aside0.mk (below_step (by repeat (first | (with_reducible first | exact HB.out | apply below_alloc | apply pw_below_drewN | apply below_drew1) | exact HB.out)) hb); clear HO180; clear HO183; clear HB; have HO180 := n0_; have HO183 := n1_; have HO187 := n2_; have HB := n3_; clear n0_ n1_ n2_ n3_; (try clear hb); (try clear hb2); (try clear hk); (try clear hi); (try clear ho0)) | ((with_reducible refine gate_dst (N := 20) rfl ?_); (try (refine gate_guard (by rfl) ?_; dsimp only)); refine Kd.R_lit (Kd.int .u8) _ 5 ?hg (N := 20) ?hd (xs := ([1] : List Int)) (inner := [.int .u8 1]) (ok := fun _ => True) (okp := fun _ => True) ?hr ?hp (fun _ hk => hk) trivial (Below.refl _ _) (Nat.le_refl _) (by simp) ?_; (case hd => rfl); (case hg => rfl); (case hr => first | (go_simp; done) | (go_simp; rfl)); (case hp => exact (Reps.one (show Kd.M (Kd.int .u8) _ _ _ 1 [.int .u8 1] from rfl) (Reps.none _ _))); intro v189 w33 ho34 hb hg_ hnew_; clear hg_ hnew_; (first | rw [← Ny188.out] at ho34 | (simp only [Int.reduceToNat] at ho34; rw [← Ny188.out] at ho34)); have n0_ := Aside0.mk (Kd.N_elder' (by (with_reducible repeat (first | apply Kd.N_alloc | apply Kd.N_drewN | apply Kd.N_drew)); exact HO180.out) (Kd.R_base ho34) hb); have n1_ := Aside0.mk (Kd.R_elder' (by (with_reducible repeat (first | apply Kd.R_alloc | apply Kd.R_drewN | apply Kd.R_drew)); exact HO183.out) (Kd.R_base ho34) hb); have n2_ := Aside0.mk (Kd.R_elder' (by (with_reducible repeat (first | apply Kd.R_alloc | apply Kd.R_drewN | apply Kd.R_drew)); exact HO187.out) (Kd.R_base ho34) hb); have n3_ := Aside0.mk (Kd.R_lower (Kd.R_new' (Kd.R_new' ho34 (Kd.R_lt (by (with_reducible repeat (first | apply Kd.R_alloc | apply Kd.R_drewN | apply Kd.R_drew)); exact HO183.out))) (Kd.R_lt (by (with_reducible repeat (first | apply Kd.R_alloc | apply Kd.R_drewN | apply Kd.R_drew)); exact HO187.out))) (below_size (by repeat (first | (with_reducible first | exact HB.out | apply below_alloc | apply pw_below_drewN | apply below_drew1) | exact HB.out)))); have n4_ := Aside0.mk (below_step (by repeat (first | (with_reducible first | exact HB.out | apply below_alloc | apply pw_below_drewN | apply below_drew1) | exact HB.out)) hb); clear HO180; clear HO183; clear HO187; clear HB; have HO180 := n0_; have HO183 := n1_; have HO187 := n2_; have HO190 := n3_; have HB := n4_; clear n0_ n1_ n2_ n3_ n4_; clear hb ho34) | ((with_reducible refine gate_dst (N := 21) rfl ?_); (try (refine gate_guard (by rfl) ?_; dsimp only)); refine Kd.R_lit (Kd.int .u8) _ 5 ?hg (N := 21) ?hd (xs := ([1] : List Int)) (inner := [.int .u8 1]) (ok := fun _ => True) (okp := fun _ => True) ?hr ?hp (fun _ hk => hk) trivial (Below.refl _ _) (Nat.le_refl _) (by simp) ?_; (case hd => rfl); (case hg => rfl); (case hr => first | (go_simp; done) | (go_simp; rfl)); (case hp => exact (Reps.one (show Kd.M (Kd.int .u8) _ _ _ 1 [.int .u8 1] from rfl) (Reps.none _ _))); intro v192 w35 ho36 hb hg_ hnew_; clear hg_ hnew_; (first | rw [← Ny191.out] at ho36 | (simp only [Int.reduceToNat] at ho36; rw [← Ny191.out] at ho36)); have n0_ := Aside0.mk (Kd.N_elder' (by (with_reducible repeat (first | apply Kd.N_alloc | apply Kd.N_drewN | apply Kd.N_drew)); exact HO180.out) (Kd.R_base ho36) hb); have n1_ := Aside0.mk (Kd.R_elder' (by (with_reducible repeat (first | apply Kd.R_alloc | apply Kd.R_drewN | apply Kd.R_drew)); exact HO183.out) (Kd.R_base ho36) hb); have n2_ := Aside0.mk (Kd.R_elder' (by (with_reducible repeat (first | apply Kd.R_alloc | apply Kd.R_drewN | apply Kd.R_drew)); exact HO187.out) (Kd.R_base ho36) hb); have n3_ := Aside0.mk (Kd.R_elder' (by (with_reducible repeat (first | apply Kd.R_alloc | apply Kd.R_drewN | apply Kd.R_drew)); exact HO190.out) (Kd.R_base ho36) hb); have n4_ := Aside0.mk (Kd.R_lower (Kd.R_new' (Kd.R_new' (Kd.R_new' ho36 (Kd.R_lt (by (with_reducible repeat (first | apply Kd.R_alloc | apply Kd.R_drewN | apply Kd.R_drew)); exact HO183.out))) (Kd.R_lt (by (with_reducible repeat (first | apply Kd.R_alloc | apply Kd.R_drewN | apply Kd.R_drew)); exact HO187.out))) (Kd.R_lt (by (with_reducible repeat (first | apply Kd.R_alloc | apply Kd.R_drewN | apply Kd.R_drew)); exact HO190.out))) (below_size (by repeat (first | (with_reducible first | exact HB.out | apply below_alloc | apply pw_below_drewN | apply below_drew1) | exact HB.out)))); have n5_ := Aside0.mk (below_step (by repeat (first | (with_reducible first | exact HB.out | apply below_alloc | apply pw_below_drewN | apply below_drew1) | exact HB.out)) hb); clear HO180; clear HO183; clear HO187; clear HO190; clear HB; have HO180 := n0_; have HO183 := n1_; have HO187 := n2_; have HO190 := n3_; have HO193 := n4_; have HB := n5_; clear n0_ n1_ n2_ n3_ n4_ n5_; clear hb ho36; obtain ⟨Ao37, co37, eo37⟩ := Kd.R_slice HO190.out; subst eo37; obtain ⟨Ao38, co38, eo38⟩ := Kd.R_slice HO193.out; subst eo38) | ((with_reducible refine gate_dst (N := 22) rfl ?_); (try (refine gate_guard (by rfl) ?_; dsimp only)); refine Kd.N_lit (Kd.slice 5 (Kd.int .u8)) _ 23 ?hg (N' := 22) ?hd (xs := ([y188, y191] : List (List Int))) (inner := [.slice Ao37 y188.length co37, .slice Ao38 y191.length co38]) (ok := (fun k_ => some k_ ≠ (.slice Ao30 y178.length co30 : Value).ownBlock ∧ some k_ ≠ (.slice Ao31 y181.length co31 : Value).ownBlock ∧ some k_ ≠ (v186 : Value).ownBlock)) (okp := (fun k_ => some k_ ≠ (.slice Ao30 y178.length co30 : Value).ownBlock ∧ some k_ ≠ (.slice Ao31 y181.length co31 : Value).ownBlock ∧ some k_ ≠ (v186 : Value).ownBlock)) ?hr ?hp (fun _ hk => hk) ((show ∀ k_, w35.heap.size ≤ k_ → (fun k_ => some k_ ≠ (.slice Ao30 y178.length co30 : Value).ownBlock ∧ some k_ ≠ (.slice Ao31 y181.length co31 : Value).ownBlock ∧ some k_ ≠ (v186 : Value).ownBlock) k_ from fun k_ hk => ⟨Kd.fresh' (Kd.N_lt (by (with_reducible repeat (first | apply Kd.N_alloc | apply Kd.N_drewN | apply Kd.N_drew)); exact HO180.out)) k_ hk, Kd.fresh' (Kd.R_lt (by (with_reducible repeat (first | apply Kd.R_alloc | apply Kd.R_drewN | apply Kd.R_drew)); exact HO183.out)) k_ hk, Kd.fresh' (Kd.R_lt (by (with_reducible repeat (first | apply Kd.R_alloc | apply Kd.R_drewN | apply Kd.R_drew)); exact HO187.out)) k_ hk⟩) _ (Nat.le_refl _)) (Below.refl _ _) (Nat.le_refl _) (by simp) ?_; (case hd => rfl); (case hg => rfl); (case hr => first | (go_simp; done) | (go_simp; rfl)); (case hp => exact (Reps.one (show Kd.FK (Kd.slice 5 (Kd.int .u8)) _ _ y188 [.slice Ao37 y188.length co37] from (Kd.FK_slice_mk (Kd.R_reads' (Kd.R_mono (ok' := (fun k_ => some k_ ≠ (.slice Ao30 y178.length co30 : Value).ownBlock ∧ some k_ ≠ (.slice Ao31 y181.length co31 : Value).ownBlock ∧ some k_ ≠ (v186 : Value).ownBlock)) (Kd.R_apart' (HO190.out) (Kd.N_typed HO180.out) (by decide)) (fun k_ hk => ⟨hk.2, ⟨hk.1.1.1.2, hk.1.1.2⟩⟩))).2.1 (Kd.R_F (Kd.R_mono (ok' := (fun k_ => some k_ ≠ (.slice Ao30 y178.length co30 : Value).ownBlock ∧ some k_ ≠ (.slice Ao31 y181.length co31 : Value).ownBlock ∧ some k_ ≠ (v186 : Value).ownBlock)) (Kd.R_apart' (HO190.out) (Kd.N_typed HO180.out) (by decide)) (fun k_ hk => ⟨hk.2, ⟨hk.1.1.1.2, hk.1.1.2⟩⟩))))) (Reps.one (show Kd.FK (Kd.slice 5 (Kd.int .u8)) _ _ y191 [.slice Ao38 y191.length co38] from (Kd.FK_slice_mk (Kd.R_reads' (Kd.R_mono (ok' := (fun k_ => some k_ ≠ (.slice Ao30 y178.length co30 : Value).ownBlock ∧ some k_ ≠ (.slice Ao31 y181.length co31 : Value).ownBlock ∧ some k_ ≠ (v186 : Value).ownBlock)) (Kd.R_apart' (HO193.out) (Kd.N_typed HO180.out) (by decide)) (fun k_ hk => ⟨hk.2, ⟨hk.1.1.1.2, hk.1.1.2⟩⟩))).2.1 (Kd.R_F (Kd.R_mono (ok' := (fun k_ => some k_ ≠ (.slice Ao30 y178.length co30 : Value).ownBlock ∧ some k_ ≠ (.slice Ao31 y181.length co31 : Value).ownBlock ∧ some k_ ≠ (v186 : Value).ownBlock)) (Kd.R_apart' (HO193.out) (Kd.N_typed HO180.out) (by decide)) (fun k_ hk => ⟨hk.2, ⟨hk.1.1.1.2, hk.1.1.2⟩⟩))))) (Reps.none _ _)))); intro v195 w39 ho40 hb hg_ hnew_; clear hg_ hnew_; (first | rw [← Ny194.out] at ho40 | (simp only [Int.reduceToNat] at ho40; rw [← Ny194.out] at ho40)); have n0_ := Aside0.mk (Kd.N_elder' (by (with_reducible repeat (first | apply Kd.N_alloc | apply Kd.N_drewN | apply Kd.N_drew)); exact HO180.out) (by first | exact Kd.N_base ho40 | exact Kd.S_base ho40) hb); have n1_ := Aside0.mk (Kd.R_below (by (with_reducible repeat (first | apply Kd.R_alloc | apply Kd.R_drewN | apply Kd.R_drew)); exact HO183.out) hb); have n2_ := Aside0.mk (Kd.R_below (by (with_reducible repeat (first | apply Kd.R_alloc | apply Kd.R_drewN | apply Kd.R_drew)); exact HO187.out) hb); have n3_ := Aside0.mk (Kd.N_lower ho40 (below_size (by repeat (first | (with_reducible first | exact HB.out | apply below_alloc | apply pw_below_drewN | apply below_drew1) | exact HB.out)))); have n4_ := Aside0.mk (below_step (by repeat (first | (with_reducible first | exact HB.out | apply below_alloc | apply pw_below_drewN | apply below_drew1) | exact HB.out)) hb); clear HO180; clear HO183; clear HO187; clear HB; clear HO190; clear HO193; have HO180 := n0_; have HO183 := n1_; have HO187 := n2_; have HO196 := n3_; have HB := n4_; clear n0_ n1_ n2_ n3_ n4_; clear hb ho40) | ((with_reducible refine gate_dst (N := 23) rfl ?_); (try (refine gate_guard (by rfl) ?_; dsimp only)); refine Kd.R_lit (Kd.int .u8) _ 5 ?hg (N := 23) ?hd (xs := ([1, 2] : List Int)) (inner := [.int .u8 1, .int .u8 2]) (ok := fun _ => True) (okp := fun _ => True) ?hr ?hp (fun _ hk => hk) trivial (Below.refl _ _) (Nat.le_refl _) (by simp) ?_; (case hd => rfl); (case hg => rfl); (case hr => first | (go_simp; done) | (go_simp; rfl)); (case hp => exact (Reps.one (show Kd.M (Kd.int .u8) _ _ _ 1 [.int .u8 1] from rfl) (Reps.one (show Kd.M (Kd.int .u8) _ _ _ 2 [.int .u8 2] from rfl) (Reps.none _ _)))); intro v198 w41 ho42 hb hg_ hnew_; clear hg_ hnew_; (first | rw [← Ny197.out] at ho42 | (simp only [Int.reduceToNat] at ho42; rw [← Ny197.out] at ho42)); have n0_ := Aside0.mk (Kd.N_elder' (by (with_reducible repeat (first | apply Kd.N_alloc | apply Kd.N_drewN | apply Kd.N_drew)); exact HO180.out) (Kd.R_base ho42) hb); have n1_ := Aside0.mk (Kd.R_elder' (by (with_reducible repeat (first | apply Kd.R_alloc | apply Kd.R_drewN | apply Kd.R_drew)); exact HO183.out) (Kd.R_base ho42) hb); have n2_ := Aside0.mk (Kd.R_elder' (by (with_reducible repeat (first | apply Kd.R_alloc | apply Kd.R_drewN | apply Kd.R_drew)); exact HO187.out) (Kd.R_base ho42) hb); have n3_ := Aside0.mk (Kd.N_elder' (by (with_reducible repeat (first | apply Kd.N_alloc | apply Kd.N_drewN | apply Kd.N_drew)); exact HO196.out) (Kd.R_base ho42) hb); have n4_ := Aside0.mk (Kd.R_lower (Kd.R_new' (Kd.R_new' ho42 (Kd.R_lt (by (with_reducible repeat (first | apply Kd.R_alloc | apply Kd.R_drewN | apply Kd.R_drew)); exact HO183.out))) (Kd.R_lt (by (with_reducible repeat (first | apply Kd.R_alloc | apply Kd.R_drewN | apply Kd.R_drew)); exact HO187.out))) (below_size (by repeat (first | (with_reducible first | exact HB.out | apply below_alloc | apply pw_below_drewN | apply below_drew1) | exact HB.out)))); have n5_ := Aside0.mk (below_step (by repeat (first | (with_reducible first | exact HB.out | apply below_alloc | apply pw_below_drewN | apply below_drew1) | exact HB.out)) hb); clear HO180; clear HO183; clear HO187; clear HO196; clear HB; have HO180 := n0_; have HO183 := n1_; have HO187 := n2_; have HO196 := n3_; have HO199 := n4_; have HB := n5_; clear n0_ n1_ n2_ n3_ n4_ n5_; clear hb ho42; obtain ⟨Ao43, co43, eo43⟩ := Kd.N_slice HO196.out; subst eo43; obtain ⟨Ao44, co44, eo44⟩ := Kd.R_slice HO199.out; subst eo44) | ((with_reducible refine gate_callee (f := 21) rfl ?_); refine goesL_ (some 24) rfl rfl Try.func21 (by kernel_rfl) rfl #[.slice Ao43 y194.length co43, .slice Ao44 y197.length co44] rfl (by (try simp only [List.map_toArray, List.map_cons, List.map_nil]); first | done | rfl | (simp only [List.length_drop, List.length_take]; rfl)) ?_; (with_reducible refine (linear_Solve.calls k _ _ y194 _ _ y197 t200 false _ ?side1 ?side2 ?side3 ?side4 A2.out).mono ?_); (case side1 => repeat (first | exact (Kd.N_reads' HO196.out).2.2 | (with_reducible refine Kd.C_alloc ?_ _) | (with_reducible refine Kd.C_drewN ?_ _) | (with_reducible refine Kd.C_drew ?_))); (case side2 => exact (Kd.N_reads' HO196.out).2.1); (case side3 => repeat (first | exact (Kd.R_reads' HO199.out).2.2 | (with_reducible refine Kd.C_alloc ?_ _) | (with_reducible refine Kd.C_drewN ?_ _) | (with_reducible refine Kd.C_drew ?_))); (case side4 => exact (Kd.R_reads' HO199.out).2.1); rintro e w45 ⟨v202, rfl, ho0, hb⟩; refine ⟨_, rfl, ?_⟩; have n0_ := Aside0.mk (Kd.N_elder' (by (with_reducible repeat (first | apply Kd.N_alloc | apply Kd.N_drewN | apply Kd.N_drew)); exact HO180.out) (Kd.R_base ho0) hb); have n1_ := Aside0.mk (Kd.R_elder' (by (with_reducible repeat (first | apply Kd.R_alloc | apply Kd.R_drewN | apply Kd.R_drew)); exact HO183.out) (Kd.R_base ho0) hb); have n2_ := Aside0.mk (Kd.R_elder' (by (with_reducible repeat (first | apply Kd.R_alloc | apply Kd.R_drewN | apply Kd.R_drew)); exact HO187.out) (Kd.R_base ho0) hb); have n3_ := Aside0.mk (Kd.N_elder' (by (with_reducible repeat (first | apply Kd.N_alloc | apply Kd.N_drewN | apply Kd.N_drew)); exact HO196.out) (Kd.R_base ho0) hb); have n4_ := Aside0.mk (Kd.R_elder' (by (with_reducible repeat (first | apply Kd.R_alloc | apply Kd.R_drewN | apply Kd.R_drew)); exact HO199.out) (Kd.R_base ho0) hb); have n5_ := Aside0.mk (Kd.R_lower (Kd.R_new' (Kd.R_new' (Kd.R_new' ho0 (Kd.R_lt (by (with_reducible repeat (first | apply Kd.R_alloc | apply Kd.R_drewN | apply Kd.R_drew)); exact HO183.out))) (Kd.R_lt (by (with_reducible repeat (first | apply Kd.R_alloc | apply Kd.R_drewN | apply Kd.R_drew)); exact HO187.out))) (Kd.R_lt (by (with_reducible repeat (first | apply Kd.R_alloc | apply Kd.R_drewN | apply Kd.R_drew)); exact HO199.out))) (below_size (by repeat (first | (with_reducible first | exact HB.out | apply below_alloc | apply pw_below_drewN | apply below_drew1) | exact HB.out)))); have n6_ := Aside0.mk (below_step (by repeat (first | (with_reducible first | exact HB.out | apply below_alloc | apply pw_below_drewN | apply below_drew1) | exact HB.out)) hb); clear HO180; clear HO183; clear HO187; clear HO196; clear HO199; clear HB; have HO180 := n0_; have HO183 := n1_; have HO187 := n2_; have HO196 := n3_; have HO199 := n4_; have HO203 := n5_; have HB := n6_; clear n0_ n1_ n2_ n3_ n4_ n5_ n6_; (try clear hb); (try clear hb2); (try clear hk); (try clear hi); (try clear ho0)) | ((with_reducible refine gate_callee (f := 23) rfl ?_); refine goesL_ (some 29) rfl rfl Try.func23 (by kernel_rfl) rfl #[.slice Ao30 y178.length co30] rfl (by (try simp only [List.map_toArray, List.map_cons, List.map_nil]); first | done | rfl | (simp only [List.length_drop, List.length_take]; rfl)) ?_; (with_reducible refine (linear_Inverse.calls k _ _ y178 t204 true _ ?side1 ?side2 A3.out).mono ?_); (case side1 => repeat (first | exact (Kd.N_reads' HO180.out).2.2 | (with_reducible refine Kd.C_alloc ?_ _) | (with_reducible refine Kd.C_drewN ?_ _) | (with_reducible refine Kd.C_drew ?_))); (case side2 => exact (Kd.N_reads' HO180.out).2.1); rintro e w46 ⟨v205, rfl, ho0, hb⟩; refine ⟨_, rfl, ?_⟩; have n0_ := Aside0.mk (Kd.N_below (by (with_reducible repeat (first | apply Kd.N_alloc | apply Kd.N_drewN | apply Kd.N_drew)); exact HO180.out) hb); have n1_ := Aside0.mk (Kd.R_below (by (with_reducible repeat (first | apply Kd.R_alloc | apply Kd.R_drewN | apply Kd.R_drew)); exact HO183.out) hb); have n2_ := Aside0.mk (Kd.R_below (by (with_reducible repeat (first | apply Kd.R_alloc | apply Kd.R_drewN | apply Kd.R_drew)); exact HO187.out) hb); have n3_ := Aside0.mk (Kd.N_below (by (with_reducible repeat (first | apply Kd.N_alloc | apply Kd.N_drewN | apply Kd.N_drew)); exact HO196.out) hb); have n4_ := Aside0.mk (Kd.R_below (by (with_reducible repeat (first | apply Kd.R_alloc | apply Kd.R_drewN | apply Kd.R_drew)); exact HO199.out) hb); have n5_ := Aside0.mk (Kd.R_below (by (with_reducible repeat (first | apply Kd.R_alloc | apply Kd.R_drewN | apply Kd.R_drew)); exact HO203.out) hb); have n6_ := Aside0.mk (Kd.V_lower (Kd.V_mono (ok' := fun k_ => some k_ ≠ (.slice Ao30 y178.length co30 : Value).ownBlock ∧ some k_ ≠ (.slice Ao31 y181.length co31 : Value).ownBlock ∧ some k_ ≠ (v186 : Value).ownBlock ∧ some k_ ≠ (.slice Ao43 y194.length co43 : Value).ownBlock ∧ some k_ ≠ (.slice Ao44 y197.length co44 : Value).ownBlock ∧ some k_ ≠ (v202 : Value).ownBlock) ho0 (fun k_ hk_ => ⟨(Kd.fresh' (Kd.N_lt (by (with_reducible repeat (first | apply Kd.N_alloc | apply Kd.N_drewN | apply Kd.N_drew)); exact HO180.out)) k_ hk_), (Kd.fresh' (Kd.R_lt (by (with_reducible repeat (first | apply Kd.R_alloc | apply Kd.R_drewN | apply Kd.R_drew)); exact HO183.out)) k_ hk_), (Kd.fresh' (Kd.R_lt (by (with_reducible repeat (first | apply Kd.R_alloc | apply Kd.R_drewN | apply Kd.R_drew)); exact HO187.out)) k_ hk_), (Kd.fresh' (Kd.N_lt (by (with_reducible repeat (first | apply Kd.N_alloc | apply Kd.N_drewN | apply Kd.N_drew)); exact HO196.out)) k_ hk_), (Kd.fresh' (Kd.R_lt (by (with_reducible repeat (first | apply Kd.R_alloc | apply Kd.R_drewN | apply Kd.R_drew)); exact HO199.out)) k_ hk_), (Kd.fresh' (Kd.R_lt (by (with_reducible repeat (first | apply Kd.R_alloc | apply Kd.R_drewN | apply Kd.R_drew)); exact HO203.out)) k_ hk_)⟩)) (below_size (by repeat (first | (with_reducible first | exact HB.out | apply below_alloc | apply pw_below_drewN | apply below_drew1) | exact HB.out)))); have n7_ := Aside0.mk (below_step (by repeat (first | (with_reducible first | exact HB.out | apply below_alloc | apply pw_below_drewN | apply below_drew1) | exact HB.out)) hb); clear HO180; clear HO183; clear HO187; clear HO196; clear HO199; clear HO203; clear HB; have HO180 := n0_; have HO183 := n1_; have HO187 := n2_; have HO196 := n3_; have HO199 := n4_; have HO203 := n5_; have HO206 := n6_; have HB := n7_; clear n0_ n1_ n2_ n3_ n4_ n5_ n6_ n7_; (try clear hb); (try clear hb2); (try clear hk); (try clear hi); (try clear ho0)) | ((with_reducible refine gate_callee (f := 11) rfl ?_); refine goesL_ (some 34) rfl rfl Try.func11 (by kernel_rfl) rfl #[.slice Ao30 y178.length co30, .int .i64 2] rfl (by (try simp only [List.map_toArray, List.map_cons, List.map_nil]); first | done | rfl | (simp only [List.length_drop, List.length_take]; rfl)) ?_; (with_reducible refine (linear_Reduce.calls k _ _ y178 2 t208 t209 _ ?side1 ?side2 A4.out).mono ?_); (case side1 => repeat (first | exact (Kd.N_reads' HO180.out).2.2 | (with_reducible refine Kd.C_alloc ?_ _) | (with_reducible refine Kd.C_drewN ?_ _) | (with_reducible refine Kd.C_drew ?_))); (case side2 => exact (Kd.N_reads' HO180.out).2.1); rintro e w47 ⟨v210, v212, rfl, ho0, ho1, hb⟩; refine ⟨_, rfl, ?_⟩; have n0_ := Aside0.mk (Kd.N_mono (Kd.N_told (Kd.N_told (Kd.N_old (by (with_reducible repeat (first | apply Kd.N_alloc | apply Kd.N_drewN | apply Kd.N_drew)); exact HO180.out) hb) (by first | exact Kd.N_base ho0 | exact Kd.S_base ho0)) (Kd.R_base ho1)) (fun _ h_ => h_.1)); have n1_ := Aside0.mk (Kd.R_below (by (with_reducible repeat (first | apply Kd.R_alloc | apply Kd.R_drewN | apply Kd.R_drew)); exact HO183.out) hb); have n2_ := Aside0.mk (Kd.R_below (by (with_reducible repeat (first | apply Kd.R_alloc | apply Kd.R_drewN | apply Kd.R_drew)); exact HO187.out) hb); have n3_ := Aside0.mk (Kd.N_mono (Kd.N_told (Kd.N_told (Kd.N_old (by (with_reducible repeat (first | apply Kd.N_alloc | apply Kd.N_drewN | apply Kd.N_drew)); exact HO196.out) hb) (by first | exact Kd.N_base ho0 | exact Kd.S_base ho0)) (Kd.R_base ho1)) (fun _ h_ => h_.1)); have n4_ := Aside0.mk (Kd.R_below (by (with_reducible repeat (first | apply Kd.R_alloc | apply Kd.R_drewN | apply Kd.R_drew)); exact HO199.out) hb); have n5_ := Aside0.mk (Kd.R_below (by (with_reducible repeat (first | apply Kd.R_alloc | apply Kd.R_drewN | apply Kd.R_drew)); exact HO203.out) hb); have n6_ := Aside0.mk (Kd.V_mono (Kd.V_told (Kd.V_told (Kd.V_old (by (with_reducible repeat (first | apply Kd.V_alloc | apply Kd.V_drewN | apply Kd.V_drew)); exact HO206.out) hb) (by first | exact Kd.N_base ho0 | exact Kd.S_base ho0)) (Kd.R_base ho1)) (fun _ h_ => h_.1)); have n7_ := Aside0.mk (Kd.N_lower (Kd.N_mono (ok' := fun k_ => some k_ ≠ (v212 : Value).ownBlock ∧ some k_ ≠ (.slice Ao30 y178.length co30 : Value).ownBlock ∧ some k_ ≠ (.slice Ao31 y181.length co31 : Value).ownBlock ∧ some k_ ≠ (v186 : Value).ownBlock ∧ some k_ ≠ (.slice Ao43 y194.length co43 : Value).ownBlock ∧ some k_ ≠ (.slice Ao44 y197.length co44 : Value).ownBlock ∧ some k_ ≠ (v202 : Value).ownBlock) (Kd.S_N (Kd.S_bound (Kd.S_apart' ho0 (Kd.R_typed ho1) (by decide)))) (fun k_ hk_ => ⟨hk_.1.2, (Kd.fresh' (Kd.N_lt (by (with_reducible repeat (first | apply Kd.N_alloc | apply Kd.N_drewN | apply Kd.N_drew)); exact HO180.out)) k_ hk_.2.1), (Kd.fresh' (Kd.R_lt (by (with_reducible repeat (first | apply Kd.R_alloc | apply Kd.R_drewN | apply Kd.R_drew)); exact HO183.out)) k_ hk_.2.1), (Kd.fresh' (Kd.R_lt (by (with_reducible repeat (first | apply Kd.R_alloc | apply Kd.R_drewN | apply Kd.R_drew)); exact HO187.out)) k_ hk_.2.1), (Kd.fresh' (Kd.N_lt (by (with_reducible repeat (first | apply Kd.N_alloc | apply Kd.N_drewN | apply Kd.N_drew)); exact HO196.out)) k_ hk_.2.1), (Kd.fresh' (Kd.R_lt (by (with_reducible repeat (first | apply Kd.R_alloc | apply Kd.R_drewN | apply Kd.R_drew)); exact HO199.out)) k_ hk_.2.1), (Kd.fresh' (Kd.R_lt (by (with_reducible repeat (first | apply Kd.R_alloc | apply Kd.R_drewN | apply Kd.R_drew)); exact HO203.out)) k_ hk_.2.1)⟩)) (below_size (by repeat (first | (with_reducible first | exact HB.out | apply below_alloc | apply pw_below_drewN | apply below_drew1) | exact HB.out)))); have n8_ := Aside0.mk (Kd.R_lower ho1 (below_size (by repeat (first | (with_reducible first | exact HB.out | apply below_alloc | apply pw_below_drewN | apply below_drew1) | exact HB.out)))); have n9_ := Aside0.mk (below_step (by repeat (first | (with_reducible first | exact HB.out | apply below_alloc | apply pw_below_drewN | apply below_drew1) | exact HB.out)) hb); clear HO180; clear HO183; clear HO187; clear HO196; clear HO199; clear HO203; clear HO206; clear HB; have HO180 := n0_; have HO183 := n1_; have HO187 := n2_; have HO196 := n3_; have HO199 := n4_; have HO203 := n5_; have HO206 := n6_; have HO211 := n7_; have HO213 := n8_; have HB := n9_; clear n0_ n1_ n2_ n3_ n4_ n5_ n6_ n7_ n8_ n9_; (try clear hb); (try clear hb2); (try clear hk); (try clear hi); (try clear ho0); (try clear ho1); obtain ⟨Ao48, co48, eo48⟩ := Kd.R_slice HO187.out; subst eo48; obtain ⟨Ao49, co49, eo49⟩ := Kd.V_slice HO206.out; subst eo49; obtain ⟨Ao50, co50, eo50⟩ := Kd.N_slice HO211.out; subst eo50; have hcv51 := own_string (P := Try.prog) Try.underlying23 Try.underlying5 Try.underlying9 (Kd.own_of_R HO187.out); obtain ⟨Ao52, co52, eo52⟩ := Kd.R_slice HO213.out; subst eo52) | (go_at_call 17; (with_reducible refine (linear_Rank.calls k _ _ y178 t214 _ ?side1 ?side2 A13.out).mono ?_); (case side1 => repeat (first | exact (Kd.N_reads' HO180.out).2.2 | (with_reducible refine Kd.C_alloc ?_ _) | (with_reducible refine Kd.C_drewN ?_ _) | (with_reducible refine Kd.C_drew ?_))); (case side2 => exact (Kd.N_reads' HO180.out).2.1); rintro e w53 ⟨rfl, hb⟩; have n0_ := Aside0.mk (Kd.N_below (by (with_reducible repeat (first | apply Kd.N_alloc | apply Kd.N_drewN | apply Kd.N_drew)); exact HO180.out) hb); have n1_ := Aside0.mk (Kd.R_below (by (with_reducible repeat (first | apply Kd.R_alloc | apply Kd.R_drewN | apply Kd.R_drew)); exact HO183.out) hb); have n2_ := Aside0.mk (Kd.R_below (by (with_reducible repeat (first | apply Kd.R_alloc | apply Kd.R_drewN | apply Kd.R_drew)); exact HO187.out) hb); have n3_ := Aside0.mk (Kd.N_below (by (with_reducible repeat (first | apply Kd.N_alloc | apply Kd.N_drewN | apply Kd.N_drew)); exact HO196.out) hb); have n4_ := Aside0.mk (Kd.R_below (by (with_reducible repeat (first | apply Kd.R_alloc | apply Kd.R_drewN | apply Kd.R_drew)); exact HO199.out) hb); have n5_ := Aside0.mk (Kd.R_below (by (with_reducible repeat (first | apply Kd.R_alloc | apply Kd.R_drewN | apply Kd.R_drew)); exact HO203.out) hb); have n6_ := Aside0.mk (Kd.V_below (by (with_reducible repeat (first | apply Kd.V_alloc | apply Kd.V_drewN | apply Kd.V_drew)); exact HO206.out) hb); have n7_ := Aside0.mk (Kd.N_below (by (with_reducible repeat (first | apply Kd.N_alloc | apply Kd.N_drewN | apply Kd.N_drew)); exact HO211.out) hb); have n8_ := Aside0.mk (Kd.R_below (by (with_reducible repeat (first | apply Kd.R_alloc | apply Kd.R_drewN | apply Kd.R_drew)); exact HO213.out) hb); have n9_ := Aside0.mk (below_step (by repeat (first | (with_reducible first | exact HB.out | apply below_alloc | apply pw_below_drewN | apply below_drew1) | exact HB.out)) hb); clear HO180; clear HO183; clear HO187; clear HO196; clear HO199; clear HO203; clear HO206; clear HO211; clear HO213; clear HB; have HO180 := n0_; have HO183 := n1_; have HO187 := n2_; have HO196 := n3_; have HO199 := n4_; have HO203 := n5_; have HO206 := n6_; have HO211 := n7_; have HO213 := n8_; have HB := n9_; clear n0_ n1_ n2_ n3_ n4_ n5_ n6_ n7_ n8_ n9_; (try clear hb); (try clear hb2); (try clear hk); (try clear hi)) | (go_at_call 13; (with_reducible refine (linear_Right.calls _ _ y178 true _ ?side1 ?side2 A15.out).mono ?_); (case side1 => repeat (first | exact (Kd.N_reads' HO180.out).2.2 | (with_reducible refine Kd.C_alloc ?_ _) | (with_reducible refine Kd.C_drewN ?_ _) | (with_reducible refine Kd.C_drew ?_))); (case side2 => exact (Kd.N_reads' HO180.out).2.1); rintro e w54 ⟨rfl, hb⟩; have n0_ := Aside0.mk (Kd.N_below (by (with_reducible repeat (first | apply Kd.N_alloc | apply Kd.N_drewN | apply Kd.N_drew)); exact HO180.out) hb); have n1_ := Aside0.mk (Kd.R_below (by (with_reducible repeat (first | apply Kd.R_alloc | apply Kd.R_drewN | apply Kd.R_drew)); exact HO183.out) hb); have n2_ := Aside0.mk (Kd.R_below (by (with_reducible repeat (first | apply Kd.R_alloc | apply Kd.R_drewN | apply Kd.R_drew)); exact HO187.out) hb); have n3_ := Aside0.mk (Kd.N_below (by (with_reducible repeat (first | apply Kd.N_alloc | apply Kd.N_drewN | apply Kd.N_drew)); exact HO196.out) hb); have n4_ := Aside0.mk (Kd.R_below (by (with_reducible repeat (first | apply Kd.R_alloc | apply Kd.R_drewN | apply Kd.R_drew)); exact HO199.out) hb); have n5_ := Aside0.mk (Kd.R_below (by (with_reducible repeat (first | apply Kd.R_alloc | apply Kd.R_drewN | apply Kd.R_drew)); exact HO203.out) hb); have n6_ := Aside0.mk (Kd.V_below (by (with_reducible repeat (first | apply Kd.V_alloc | apply Kd.V_drewN | apply Kd.V_drew)); exact HO206.out) hb); have n7_ := Aside0.mk (Kd.N_below (by (with_reducible repeat (first | apply Kd.N_alloc | apply Kd.N_drewN | apply Kd.N_drew)); exact HO211.out) hb); have n8_ := Aside0.mk (Kd.R_below (by (with_reducible repeat (first | apply Kd.R_alloc | apply Kd.R_drewN | apply Kd.R_drew)); exact HO213.out) hb); have n9_ := Aside0.mk (below_step (by repeat (first | (with_reducible first | exact HB.out | apply below_alloc | apply pw_below_drewN | apply below_drew1) | exact HB.out)) hb); clear HO180; clear HO183; clear HO187; clear HO196; clear HO199; clear HO203; clear HO206; clear HO211; clear HO213; clear HB; have HO180 := n0_; have HO183 := n1_; have HO187 := n2_; have HO196 := n3_; have HO199 := n4_; have HO203 := n5_; have HO206 := n6_; have HO211 := n7_; have HO213 := n8_; have HB := n9_; clear n0_ n1_ n2_ n3_ n4_ n5_ n6_ n7_ n8_ n9_; (try clear hb); (try clear hb2); (try clear hk); (try clear hi)) | ((with_reducible refine gate_dst (N := 78) rfl ?_); (try (refine gate_guard (by rfl) ?_; dsimp only)); refine Kd.R_lit (Kd.int .u8) _ 5 ?hg (N := 78) ?hd (xs := ([1] : List Int)) (inner := [.int .u8 1]) (ok := fun _ => True) (okp := fun _ => True) ?hr ?hp (fun _ hk => hk) trivial (Below.refl _ _) (Nat.le_refl _) (by simp) ?_; (case hd => rfl); (case hg => rfl); (case hr => first | (go_simp; done) | (go_simp; rfl)); (case hp => exact (Reps.one (show Kd.M (Kd.int .u8) _ _ _ 1 [.int .u8 1] from rfl) (Reps.none _ _))); intro v217 w55 ho56 hb hg_ hnew_; clear hg_ hnew_; (first | rw [← Ny216.out] at ho56 | (simp only [Int.reduceToNat] at ho56; rw [← Ny216.out] at ho56)); have n0_ := Aside0.mk (Kd.N_elder' (by (with_reducible repeat (first | apply Kd.N_alloc | apply Kd.N_drewN | apply Kd.N_drew)); exact HO180.out) (Kd.R_base ho56) hb); have n1_ := Aside0.mk (Kd.R_elder' (by (with_reducible repeat (first | apply Kd.R_alloc | apply Kd.R_drewN | apply Kd.R_drew)); exact HO183.out) (Kd.R_base ho56) hb); have n2_ := Aside0.mk (Kd.R_elder' (by (with_reducible repeat (first | apply Kd.R_alloc | apply Kd.R_drewN | apply Kd.R_drew)); exact HO187.out) (Kd.R_base ho56) hb); have n3_ := Aside0.mk (Kd.N_elder' (by (with_reducible repeat (first | apply Kd.N_alloc | apply Kd.N_drewN | apply Kd.N_drew)); exact HO196.out) (Kd.R_base ho56) hb); have n4_ := Aside0.mk (Kd.R_elder' (by (with_reducible repeat (first | apply Kd.R_alloc | apply Kd.R_drewN | apply Kd.R_drew)); exact HO199.out) (Kd.R_base ho56) hb); have n5_ := Aside0.mk (Kd.R_elder' (by (with_reducible repeat (first | apply Kd.R_alloc | apply Kd.R_drewN | apply Kd.R_drew)); exact HO203.out) (Kd.R_base ho56) hb); have n6_ := Aside0.mk (Kd.V_elder' (by (with_reducible repeat (first | apply Kd.V_alloc | apply Kd.V_drewN | apply Kd.V_drew)); exact HO206.out) (Kd.R_base ho56) hb); have n7_ := Aside0.mk (Kd.N_elder' (by (with_reducible repeat (first | apply Kd.N_alloc | apply Kd.N_drewN | apply Kd.N_drew)); exact HO211.out) (Kd.R_base ho56) hb); have n8_ := Aside0.mk (Kd.R_below (by (with_reducible repeat (first | apply Kd.R_alloc | apply Kd.R_drewN | apply Kd.R_drew)); exact HO213.out) hb); have n9_ := Aside0.mk (Kd.R_lower (Kd.R_new' (Kd.R_new' (Kd.R_new' (Kd.R_new' ho56 (Kd.R_lt (by (with_reducible repeat (first | apply Kd.R_alloc | apply Kd.R_drewN | apply Kd.R_drew)); exact HO183.out))) (Kd.R_lt (by (with_reducible repeat (first | apply Kd.R_alloc | apply Kd.R_drewN | apply Kd.R_drew)); exact HO187.out))) (Kd.R_lt (by (with_reducible repeat (first | apply Kd.R_alloc | apply Kd.R_drewN | apply Kd.R_drew)); exact HO199.out))) (Kd.R_lt (by (with_reducible repeat (first | apply Kd.R_alloc | apply Kd.R_drewN | apply Kd.R_drew)); exact HO203.out))) (below_size (by repeat (first | (with_reducible first | exact HB.out | apply below_alloc | apply pw_below_drewN | apply below_drew1) | exact HB.out)))); have n10_ := Aside0.mk (below_step (by repeat (first | (with_reducible first | exact HB.out | apply below_alloc | apply pw_below_drewN | apply below_drew1) | exact HB.out)) hb); clear HO180; clear HO183; clear HO187; clear HO196; clear HO199; clear HO203; clear HO206; clear HO211; clear HO213; clear HB; have HO180 := n0_; have HO183 := n1_; have HO187 := n2_; have HO196 := n3_; have HO199 := n4_; have HO203 := n5_; have HO206 := n6_; have HO211 := n7_; have HO213 := n8_; have HO218 := n9_; have HB := n10_; clear n0_ n1_ n2_ n3_ n4_ n5_ n6_ n7_ n8_ n9_ n10_; clear hb ho56) | ((with_reducible refine gate_dst (N := 79) rfl ?_); (try (refine gate_guard (by rfl) ?_; dsimp only)); refine Kd.R_lit (Kd.int .u8) _ 5 ?hg (N := 79) ?hd (xs := ([] : List Int)) (inner := []) (ok := fun _ => True) (okp := fun _ => True) ?hr ?hp (fun _ hk => hk) trivial (Below.refl _ _) (Nat.le_refl _) (by simp) ?_; (case hd => rfl); (case hg => rfl); (case hr => first | (go_simp; done) | (go_simp; rfl)); (case hp => exact (Reps.none _ _)); intro v220 w57 ho58 hb hg_ hnew_; clear hg_ hnew_; (first | rw [← Ny219.out] at ho58 | (simp only [Int.reduceToNat] at ho58; rw [← Ny219.out] at ho58)); have n0_ := Aside0.mk (Kd.N_elder' (by (with_reducible repeat (first | apply Kd.N_alloc | apply Kd.N_drewN | apply Kd.N_drew)); exact HO180.out) (Kd.R_base ho58) hb); have n1_ := Aside0.mk (Kd.R_elder' (by (with_reducible repeat (first | apply Kd.R_alloc | apply Kd.R_drewN | apply Kd.R_drew)); exact HO183.out) (Kd.R_base ho58) hb); have n2_ := Aside0.mk (Kd.R_elder' (by (with_reducible repeat (first | apply Kd.R_alloc | apply Kd.R_drewN | apply Kd.R_drew)); exact HO187.out) (Kd.R_base ho58) hb); have n3_ := Aside0.mk (Kd.N_elder' (by (with_reducible repeat (first | apply Kd.N_alloc | apply Kd.N_drewN | apply Kd.N_drew)); exact HO196.out) (Kd.R_base ho58) hb); have n4_ := Aside0.mk (Kd.R_elder' (by (with_reducible repeat (first | apply Kd.R_alloc | apply Kd.R_drewN | apply Kd.R_drew)); exact HO199.out) (Kd.R_base ho58) hb); have n5_ := Aside0.mk (Kd.R_elder' (by (with_reducible repeat (first | apply Kd.R_alloc | apply Kd.R_drewN | apply Kd.R_drew)); exact HO203.out) (Kd.R_base ho58) hb); have n6_ := Aside0.mk (Kd.V_elder' (by (with_reducible repeat (first | apply Kd.V_alloc | apply Kd.V_drewN | apply Kd.V_drew)); exact HO206.out) (Kd.R_base ho58) hb); have n7_ := Aside0.mk (Kd.N_elder' (by (with_reducible repeat (first | apply Kd.N_alloc | apply Kd.N_drewN | apply Kd.N_drew)); exact HO211.out) (Kd.R_base ho58) hb); have n8_ := Aside0.mk (Kd.R_below (by (with_reducible repeat (first | apply Kd.R_alloc | apply Kd.R_drewN | apply Kd.R_drew)); exact HO213.out) hb); have n9_ := Aside0.mk (Kd.R_elder' (by (with_reducible repeat (first | apply Kd.R_alloc | apply Kd.R_drewN | apply Kd.R_drew)); exact HO218.out) (Kd.R_base ho58) hb); have n10_ := Aside0.mk (Kd.R_lower (Kd.R_new' (Kd.R_new' (Kd.R_new' (Kd.R_new' (Kd.R_new' ho58 (Kd.R_lt (by (with_reducible repeat (first | apply Kd.R_alloc | apply Kd.R_drewN | apply Kd.R_drew)); exact HO183.out))) (Kd.R_lt (by (with_reducible repeat (first | apply Kd.R_alloc | apply Kd.R_drewN | apply Kd.R_drew)); exact HO187.out))) (Kd.R_lt (by (with_reducible repeat (first | apply Kd.R_alloc | apply Kd.R_drewN | apply Kd.R_drew)); exact HO199.out))) (Kd.R_lt (by (with_reducible repeat (first | apply Kd.R_alloc | apply Kd.R_drewN | apply Kd.R_drew)); exact HO203.out))) (Kd.R_lt (by (with_reducible repeat (first | apply Kd.R_alloc | apply Kd.R_drewN | apply Kd.R_drew)); exact HO218.out))) (below_size (by repeat (first | (with_reducible first | exact HB.out | apply below_alloc | apply pw_below_drewN | apply below_drew1) | exact HB.out)))); have n11_ := Aside0.mk (below_step (by repeat (first | (with_reducible first | exact HB.out | apply below_alloc | apply pw_below_drewN | apply below_drew1) | exact HB.out)) hb); clear HO180; clear HO183; clear HO187; clear HO196; clear HO199; clear HO203; clear HO206; clear HO211; clear HO213; clear HO218; clear HB; have HO180 := n0_; have HO183 := n1_; have HO187 := n2_; have HO196 := n3_; have HO199 := n4_; have HO203 := n5_; have HO206 := n6_; have HO211 := n7_; have HO213 := n8_; have HO218 := n9_; have HO221 := n10_; have HB := n11_; clear n0_ n1_ n2_ n3_ n4_ n5_ n6_ n7_ n8_ n9_ n10_ n11_; clear hb ho58; obtain ⟨Ao59, co59, eo59⟩ := Kd.R_slice HO218.out; subst eo59; obtain ⟨Ao60, co60, eo60⟩ := Kd.R_slice HO221.out; subst eo60) | ((with_reducible refine gate_dst (N := 80) rfl ?_); (try (refine gate_guard (by rfl) ?_; dsimp only)); refine Kd.N_lit (Kd.slice 5 (Kd.int .u8)) _ 23 ?hg (N' := 80) ?hd (xs := ([y216, y219] : List (List Int))) (inner := [.slice Ao59 y216.length co59, .slice Ao60 y219.length co60]) (ok := (fun k_ => some k_ ≠ (.slice Ao30 y178.length co30 : Value).ownBlock ∧ some k_ ≠ (.slice Ao31 y181.length co31 : Value).ownBlock ∧ some k_ ≠ (.slice Ao48 t184.length co48 : Value).ownBlock ∧ some k_ ≠ (.slice Ao43 y194.length co43 : Value).ownBlock ∧ some k_ ≠ (.slice Ao44 y197.length co44 : Value).ownBlock ∧ some k_ ≠ (v202 : Value).ownBlock ∧ some k_ ≠ (.slice Ao50 t208.length co50 : Value).ownBlock ∧ some k_ ≠ (.slice Ao52 t209.length co52 : Value).ownBlock)) (okp := (fun k_ => some k_ ≠ (.slice Ao30 y178.length co30 : Value).ownBlock ∧ some k_ ≠ (.slice Ao31 y181.length co31 : Value).ownBlock ∧ some k_ ≠ (.slice Ao48 t184.length co48 : Value).ownBlock ∧ some k_ ≠ (.slice Ao43 y194.length co43 : Value).ownBlock ∧ some k_ ≠ (.slice Ao44 y197.length co44 : Value).ownBlock ∧ some k_ ≠ (v202 : Value).ownBlock ∧ some k_ ≠ (.slice Ao50 t208.length co50 : Value).ownBlock ∧ some k_ ≠ (.slice Ao52 t209.length co52 : Value).ownBlock)) ?hr ?hp (fun _ hk => hk) ((show ∀ k_, w57.heap.size ≤ k_ → (fun k_ => some k_ ≠ (.slice Ao30 y178.length co30 : Value).ownBlock ∧ some k_ ≠ (.slice Ao31 y181.length co31 : Value).ownBlock ∧ some k_ ≠ (.slice Ao48 t184.length co48 : Value).ownBlock ∧ some k_ ≠ (.slice Ao43 y194.length co43 : Value).ownBlock ∧ some k_ ≠ (.slice Ao44 y197.length co44 : Value).ownBlock ∧ some k_ ≠ (v202 : Value).ownBlock ∧ some k_ ≠ (.slice Ao50 t208.length co50 : Value).ownBlock ∧ some k_ ≠ (.slice Ao52 t209.length co52 : Value).ownBlock) k_ from fun k_ hk => ⟨Kd.fresh' (Kd.N_lt (by (with_reducible repeat (first | apply Kd.N_alloc | apply Kd.N_drewN | apply Kd.N_drew)); exact HO180.out)) k_ hk, Kd.fresh' (Kd.R_lt (by (with_reducible repeat (first | apply Kd.R_alloc | apply Kd.R_drewN | apply Kd.R_drew)); exact HO183.out)) k_ hk, Kd.fresh' (Kd.R_lt (by (with_reducible repeat (first | apply Kd.R_alloc | apply Kd.R_drewN | apply Kd.R_drew)); exact HO187.out)) k_ hk, Kd.fresh' (Kd.N_lt (by (with_reducible repeat (first | apply Kd.N_alloc | apply Kd.N_drewN | apply Kd.N_drew)); exact HO196.out)) k_ hk, Kd.fresh' (Kd.R_lt (by (with_reducible repeat (first | apply Kd.R_alloc | apply Kd.R_drewN | apply Kd.R_drew)); exact HO199.out)) k_ hk, Kd.fresh' (Kd.R_lt (by (with_reducible repeat (first | apply Kd.R_alloc | apply Kd.R_drewN | apply Kd.R_drew)); exact HO203.out)) k_ hk, Kd.fresh' (Kd.N_lt (by (with_reducible repeat (first | apply Kd.N_alloc | apply Kd.N_drewN | apply Kd.N_drew)); exact HO211.out)) k_ hk, Kd.fresh' (Kd.R_lt (by (with_reducible repeat (first | apply Kd.R_alloc | apply Kd.R_drewN | apply Kd.R_drew)); exact HO213.out)) k_ hk⟩) _ (Nat.le_refl _)) (Below.refl _ _) (Nat.le_refl _) (by simp) ?_; (case hd => rfl); (case hg => rfl); (case hr => first | (go_simp; done) | (go_simp; rfl)); (case hp => exact (Reps.one (show Kd.FK (Kd.slice 5 (Kd.int .u8)) _ _ y216 [.slice Ao59 y216.length co59] from (Kd.FK_slice_mk (Kd.R_reads' (Kd.R_mono (ok' := (fun k_ => some k_ ≠ (.slice Ao30 y178.length co30 : Value).ownBlock ∧ some k_ ≠ (.slice Ao31 y181.length co31 : Value).ownBlock ∧ some k_ ≠ (.slice Ao48 t184.length co48 : Value).ownBlock ∧ some k_ ≠ (.slice Ao43 y194.length co43 : Value).ownBlock ∧ some k_ ≠ (.slice Ao44 y197.length co44 : Value).ownBlock ∧ some k_ ≠ (v202 : Value).ownBlock ∧ some k_ ≠ (.slice Ao50 t208.length co50 : Value).ownBlock ∧ some k_ ≠ (.slice Ao52 t209.length co52 : Value).ownBlock)) (Kd.R_apart' (Kd.R_apart' (Kd.R_apart' (Kd.R_apart' (HO218.out) (Kd.N_typed HO180.out) (by decide)) (Kd.N_typed HO196.out) (by decide)) (Kd.N_typed HO211.out) (by decide)) (Kd.R_typed HO213.out) (by decide)) (fun k_ hk => ⟨hk.1.1.1.2, ⟨hk.1.1.1.1.1.1.1.1.2, ⟨hk.1.1.1.1.1.1.1.2, ⟨hk.1.1.2, ⟨hk.1.1.1.1.1.1.2, ⟨hk.1.1.1.1.1.2, ⟨hk.1.2, hk.2⟩⟩⟩⟩⟩⟩⟩))).2.1 (Kd.R_F (Kd.R_mono (ok' := (fun k_ => some k_ ≠ (.slice Ao30 y178.length co30 : Value).ownBlock ∧ some k_ ≠ (.slice Ao31 y181.length co31 : Value).ownBlock ∧ some k_ ≠ (.slice Ao48 t184.length co48 : Value).ownBlock ∧ some k_ ≠ (.slice Ao43 y194.length co43 : Value).ownBlock ∧ some k_ ≠ (.slice Ao44 y197.length co44 : Value).ownBlock ∧ some k_ ≠ (v202 : Value).ownBlock ∧ some k_ ≠ (.slice Ao50 t208.length co50 : Value).ownBlock ∧ some k_ ≠ (.slice Ao52 t209.length co52 : Value).ownBlock)) (Kd.R_apart' (Kd.R_apart' (Kd.R_apart' (Kd.R_apart' (HO218.out) (Kd.N_typed HO180.out) (by decide)) (Kd.N_typed HO196.out) (by decide)) (Kd.N_typed HO211.out) (by decide)) (Kd.R_typed HO213.out) (by decide)) (fun k_ hk => ⟨hk.1.1.1.2, ⟨hk.1.1.1.1.1.1.1.1.2, ⟨hk.1.1.1.1.1.1.1.2, ⟨hk.1.1.2, ⟨hk.1.1.1.1.1.1.2, ⟨hk.1.1.1.1.1.2, ⟨hk.1.2, hk.2⟩⟩⟩⟩⟩⟩⟩))))) (Reps.one (show Kd.FK (Kd.slice 5 (Kd.int .u8)) _ _ y219 [.slice Ao60 y219.length co60] from (Kd.FK_slice_mk (Kd.R_reads' (Kd.R_mono (ok' := (fun k_ => some k_ ≠ (.slice Ao30 y178.length co30 : Value).ownBlock ∧ some k_ ≠ (.slice Ao31 y181.length co31 : Value).ownBlock ∧ some k_ ≠ (.slice Ao48 t184.length co48 : Value).ownBlock ∧ some k_ ≠ (.slice Ao43 y194.length co43 : Value).ownBlock ∧ some k_ ≠ (.slice Ao44 y197.length co44 : Value).ownBlock ∧ some k_ ≠ (v202 : Value).ownBlock ∧ some k_ ≠ (.slice Ao50 t208.length co50 : Value).ownBlock ∧ some k_ ≠ (.slice Ao52 t209.length co52 : Value).ownBlock)) (Kd.R_apart' (Kd.R_apart' (Kd.R_apart' (Kd.R_apart' (HO221.out) (Kd.N_typed HO180.out) (by decide)) (Kd.N_typed HO196.out) (by decide)) (Kd.N_typed HO211.out) (by decide)) (Kd.R_typed HO213.out) (by decide)) (fun k_ hk => ⟨hk.1.1.1.2, ⟨hk.1.1.1.1.1.1.1.1.2, ⟨hk.1.1.1.1.1.1.1.2, ⟨hk.1.1.2, ⟨hk.1.1.1.1.1.1.2, ⟨hk.1.1.1.1.1.2, ⟨hk.1.2, hk.2⟩⟩⟩⟩⟩⟩⟩))).2.1 (Kd.R_F (Kd.R_mono (ok' := (fun k_ => some k_ ≠ (.slice Ao30 y178.length co30 : Value).ownBlock ∧ some k_ ≠ (.slice Ao31 y181.length co31 : Value).ownBlock ∧ some k_ ≠ (.slice Ao48 t184.length co48 : Value).ownBlock ∧ some k_ ≠ (.slice Ao43 y194.length co43 : Value).ownBlock ∧ some k_ ≠ (.slice Ao44 y197.length co44 : Value).ownBlock ∧ some k_ ≠ (v202 : Value).ownBlock ∧ some k_ ≠ (.slice Ao50 t208.length co50 : Value).ownBlock ∧ some k_ ≠ (.slice Ao52 t209.length co52 : Value).ownBlock)) (Kd.R_apart' (Kd.R_apart' (Kd.R_apart' (Kd.R_apart' (HO221.out) (Kd.N_typed HO180.out) (by decide)) (Kd.N_typed HO196.out) (by decide)) (Kd.N_typed HO211.out) (by decide)) (Kd.R_typed HO213.out) (by decide)) (fun k_ hk => ⟨hk.1.1.1.2, ⟨hk.1.1.1.1.1.1.1.1.2, ⟨hk.1.1.1.1.1.1.1.2, ⟨hk.1.1.2, ⟨hk.1.1.1.1.1.1.2, ⟨hk.1.1.1.1.1.2, ⟨hk.1.2, hk.2⟩⟩⟩⟩⟩⟩⟩))))) (Reps.none _ _)))); intro v223 w61 ho62 hb hg_ hnew_; clear hg_ hnew_; (first | rw [← Ny222.out] at ho62 | (simp only [Int.reduceToNat] at ho62; rw [← Ny222.out] at ho62)); have n0_ := Aside0.mk (Kd.N_elder' (by (with_reducible repeat (first | apply Kd.N_alloc | apply Kd.N_drewN | apply Kd.N_drew)); exact HO180.out) (by first | exact Kd.N_base ho62 | exact Kd.S_base ho62) hb); have n1_ := Aside0.mk (Kd.R_below (by (with_reducible repeat (first | apply Kd.R_alloc | apply Kd.R_drewN | apply Kd.R_drew)); exact HO183.out) hb); have n2_ := Aside0.mk (Kd.R_below (by (with_reducible repeat (first | apply Kd.R_alloc | apply Kd.R_drewN | apply Kd.R_drew)); exact HO187.out) hb); have n3_ := Aside0.mk (Kd.N_elder' (by (with_reducible repeat (first | apply Kd.N_alloc | apply Kd.N_drewN | apply Kd.N_drew)); exact HO196.out) (by first | exact Kd.N_base ho62 | exact Kd.S_base ho62) hb); have n4_ := Aside0.mk (Kd.R_below (by (with_reducible repeat (first | apply Kd.R_alloc | apply Kd.R_drewN | apply Kd.R_drew)); exact HO199.out) hb); have n5_ := Aside0.mk (Kd.R_below (by (with_reducible repeat (first | apply Kd.R_alloc | apply Kd.R_drewN | apply Kd.R_drew)); exact HO203.out) hb); have n6_ := Aside0.mk (Kd.V_elder' (by (with_reducible repeat (first | apply Kd.V_alloc | apply Kd.V_drewN | apply Kd.V_drew)); exact HO206.out) (by first | exact Kd.N_base ho62 | exact Kd.S_base ho62) hb); have n7_ := Aside0.mk (Kd.N_elder' (by (with_reducible repeat (first | apply Kd.N_alloc | apply Kd.N_drewN | apply Kd.N_drew)); exact HO211.out) (by first | exact Kd.N_base ho62 | exact Kd.S_base ho62) hb); have n8_ := Aside0.mk (Kd.R_below (by (with_reducible repeat (first | apply Kd.R_alloc | apply Kd.R_drewN | apply Kd.R_drew)); exact HO213.out) hb); have n9_ := Aside0.mk (Kd.N_lower ho62 (below_size (by repeat (first | (with_reducible first | exact HB.out | apply below_alloc | apply pw_below_drewN | apply below_drew1) | exact HB.out)))); have n10_ := Aside0.mk (below_step (by repeat (first | (with_reducible first | exact HB.out | apply below_alloc | apply pw_below_drewN | apply below_drew1) | exact HB.out)) hb); clear HO180; clear HO183; clear HO187; clear HO196; clear HO199; clear HO203; clear HO206; clear HO211; clear HO213; clear HB; clear HO218; clear HO221; have HO180 := n0_; have HO183 := n1_; have HO187 := n2_; have HO196 := n3_; have HO199 := n4_; have HO203 := n5_; have HO206 := n6_; have HO211 := n7_; have HO213 := n8_; have HO224 := n9_; have HB := n10_; clear n0_ n1_ n2_ n3_ n4_ n5_ n6_ n7_ n8_ n9_ n10_; clear hb ho62; obtain ⟨Ao63, co63, eo63⟩ := Kd.N_slice HO224.out; subst eo63) | (go_at_call 13; (with_reducible refine (linear_Right.calls _ _ y222 false _ ?side1 ?side2 A17.out).mono ?_); (case side1 => repeat (first | exact (Kd.N_reads' HO224.out).2.2 | (with_reducible refine Kd.C_alloc ?_ _) | (with_reducible refine Kd.C_drewN ?_ _) | (with_reducible refine Kd.C_drew ?_))); (case side2 => exact (Kd.N_reads' HO224.out).2.1); rintro e w64 ⟨rfl, hb⟩; have n0_ := Aside0.mk (Kd.N_below (by (with_reducible repeat (first | apply Kd.N_alloc | apply Kd.N_drewN | apply Kd.N_drew)); exact HO180.out) hb); have n1_ := Aside0.mk (Kd.R_below (by (with_reducible repeat (first | apply Kd.R_alloc | apply Kd.R_drewN | apply Kd.R_drew)); exact HO183.out) hb); have n2_ := Aside0.mk (Kd.R_below (by (with_reducible repeat (first | apply Kd.R_alloc | apply Kd.R_drewN | apply Kd.R_drew)); exact HO187.out) hb); have n3_ := Aside0.mk (Kd.N_below (by (with_reducible repeat (first | apply Kd.N_alloc | apply Kd.N_drewN | apply Kd.N_drew)); exact HO196.out) hb); have n4_ := Aside0.mk (Kd.R_below (by (with_reducible repeat (first | apply Kd.R_alloc | apply Kd.R_drewN | apply Kd.R_drew)); exact HO199.out) hb); have n5_ := Aside0.mk (Kd.R_below (by (with_reducible repeat (first | apply Kd.R_alloc | apply Kd.R_drewN | apply Kd.R_drew)); exact HO203.out) hb); have n6_ := Aside0.mk (Kd.V_below (by (with_reducible repeat (first | apply Kd.V_alloc | apply Kd.V_drewN | apply Kd.V_drew)); exact HO206.out) hb); have n7_ := Aside0.mk (Kd.N_below (by (with_reducible repeat (first | apply Kd.N_alloc | apply Kd.N_drewN | apply Kd.N_drew)); exact HO211.out) hb); have n8_ := Aside0.mk (Kd.R_below (by (with_reducible repeat (first | apply Kd.R_alloc | apply Kd.R_drewN | apply Kd.R_drew)); exact HO213.out) hb); have n9_ := Aside0.mk (Kd.N_below (by (with_reducible repeat (first | apply Kd.N_alloc | apply Kd.N_drewN | apply Kd.N_drew)); exact HO224.out) hb); have n10_ := Aside0.mk (below_step (by repeat (first | (with_reducible first | exact HB.out | apply below_alloc | apply pw_below_drewN | apply below_drew1) | exact HB.out)) hb); clear HO180; clear HO183; clear HO187; clear HO196; clear HO199; clear HO203; clear HO206; clear HO211; clear HO213; clear HO224; clear HB; have HO180 := n0_; have HO183 := n1_; have HO187 := n2_; have HO196 := n3_; have HO199 := n4_; have HO203 := n5_; have HO206 := n6_; have HO211 := n7_; have HO213 := n8_; have HO224 := n9_; have HB := n10_; clear n0_ n1_ n2_ n3_ n4_ n5_ n6_ n7_ n8_ n9_ n10_; (try clear hb); (try clear hb2); (try clear hk); (try clear hi)) | (go_at_call 19; (with_reducible refine (linear_Times.calls k _ _ y178 _ _ t184 t226 _ ?side1 ?side2 ?side3 ?side4 A19.out).mono ?_); (case side1 => repeat (first | exact (Kd.N_reads' HO180.out).2.2 | (with_reducible refine Kd.C_alloc ?_ _) | (with_reducible refine Kd.C_drewN ?_ _) | (with_reducible refine Kd.C_drew ?_))); (case side2 => exact (Kd.N_reads' HO180.out).2.1); (case side3 => repeat (first | exact (Kd.R_reads' HO187.out).2.2 | (with_reducible refine Kd.C_alloc ?_ _) | (with_reducible refine Kd.C_drewN ?_ _) | (with_reducible refine Kd.C_drew ?_))); (case side4 => exact (Kd.R_reads' HO187.out).2.1); rintro e w65 ⟨v227, rfl, ho0, hb⟩; have n0_ := Aside0.mk (Kd.N_elder' (by (with_reducible repeat (first | apply Kd.N_alloc | apply Kd.N_drewN | apply Kd.N_drew)); exact HO180.out) (Kd.R_base ho0) hb); have n1_ := Aside0.mk (Kd.R_elder' (by (with_reducible repeat (first | apply Kd.R_alloc | apply Kd.R_drewN | apply Kd.R_drew)); exact HO183.out) (Kd.R_base ho0) hb); have n2_ := Aside0.mk (Kd.R_elder' (by (with_reducible repeat (first | apply Kd.R_alloc | apply Kd.R_drewN | apply Kd.R_drew)); exact HO187.out) (Kd.R_base ho0) hb); have n3_ := Aside0.mk (Kd.N_elder' (by (with_reducible repeat (first | apply Kd.N_alloc | apply Kd.N_drewN | apply Kd.N_drew)); exact HO196.out) (Kd.R_base ho0) hb); have n4_ := Aside0.mk (Kd.R_elder' (by (with_reducible repeat (first | apply Kd.R_alloc | apply Kd.R_drewN | apply Kd.R_drew)); exact HO199.out) (Kd.R_base ho0) hb); have n5_ := Aside0.mk (Kd.R_elder' (by (with_reducible repeat (first | apply Kd.R_alloc | apply Kd.R_drewN | apply Kd.R_drew)); exact HO203.out) (Kd.R_base ho0) hb); have n6_ := Aside0.mk (Kd.V_elder' (by (with_reducible repeat (first | apply Kd.V_alloc | apply Kd.V_drewN | apply Kd.V_drew)); exact HO206.out) (Kd.R_base ho0) hb); have n7_ := Aside0.mk (Kd.N_elder' (by (with_reducible repeat (first | apply Kd.N_alloc | apply Kd.N_drewN | apply Kd.N_drew)); exact HO211.out) (Kd.R_base ho0) hb); have n8_ := Aside0.mk (Kd.R_below (by (with_reducible repeat (first | apply Kd.R_alloc | apply Kd.R_drewN | apply Kd.R_drew)); exact HO213.out) hb); have n9_ := Aside0.mk (Kd.N_elder' (by (with_reducible repeat (first | apply Kd.N_alloc | apply Kd.N_drewN | apply Kd.N_drew)); exact HO224.out) (Kd.R_base ho0) hb); have n10_ := Aside0.mk (Kd.R_lower (Kd.R_new' (Kd.R_new' (Kd.R_new' (Kd.R_new' ho0 (Kd.R_lt (by (with_reducible repeat (first | apply Kd.R_alloc | apply Kd.R_drewN | apply Kd.R_drew)); exact HO183.out))) (Kd.R_lt (by (with_reducible repeat (first | apply Kd.R_alloc | apply Kd.R_drewN | apply Kd.R_drew)); exact HO187.out))) (Kd.R_lt (by (with_reducible repeat (first | apply Kd.R_alloc | apply Kd.R_drewN | apply Kd.R_drew)); exact HO199.out))) (Kd.R_lt (by (with_reducible repeat (first | apply Kd.R_alloc | apply Kd.R_drewN | apply Kd.R_drew)); exact HO203.out))) (below_size (by repeat (first | (with_reducible first | exact HB.out | apply below_alloc | apply pw_below_drewN | apply below_drew1) | exact HB.out)))); have n11_ := Aside0.mk (below_step (by repeat (first | (with_reducible first | exact HB.out | apply below_alloc | apply pw_below_drewN | apply below_drew1) | exact HB.out)) hb); clear HO180; clear HO183; clear HO187; clear HO196; clear HO199; clear HO203; clear HO206; clear HO211; clear HO213; clear HO224; clear HB; have HO180 := n0_; have HO183 := n1_; have HO187 := n2_; have HO196 := n3_; have HO199 := n4_; have HO203 := n5_; have HO206 := n6_; have HO211 := n7_; have HO213 := n8_; have HO224 := n9_; have HO228 := n10_; have HB := n11_; clear n0_ n1_ n2_ n3_ n4_ n5_ n6_ n7_ n8_ n9_ n10_ n11_; (try clear hb); (try clear hb2); (try clear hk); (try clear hi); (try clear ho0); have hcv66 := own_string (P := Try.prog) Try.underlying23 Try.underlying5 Try.underlying9 (Kd.own_of_R HO228.out)))
            go_ret
            exact ⟨by first | rfl | (simp [errW_none, errW_some] <;> rfl) | (simp [*, errW_none, errW_some] <;> rfl), by repeat (first | (with_reducible first | exact HB.out | apply below_alloc | apply pw_below_drewN | apply below_drew1) | exact HB.out)⟩
          ·replace c16 := Bool.eq_false_iff.mpr c16
           subst c16
           have H1 : (none) = some r := by rw [if_neg (show ¬ (false = true) by decide)] at H; exact H
           clear H
           have H := H1
           clear H1
           exact absurd H (by simp)
         ·rw [if_neg c14] at H
          exact absurd H (by simp)
        ·rw [if_neg c12] at H
         exact absurd H (by simp)
       ·replace c11 := Bool.eq_false_iff.mpr c11
        subst c11
        have H1 : (none) = some r := by rw [if_neg (show ¬ (false = true) by decide)] at H; exact H
        clear H
        have H := H1
        clear H1
        exact absurd H (by simp)
     ·rw [if_neg c9] at H
      exact absurd H (by simp)
    ·replace c8 := Bool.eq_false_iff.mpr c8
     subst c8
     have H1 : (none) = some r := by rw [if_neg (show ¬ (false = true) by decide)] at H; exact H
     clear H
     have H := H1
     clear H1
     exact absurd H (by simp)
   ·rw [if_neg c7] at H
    exact absurd H (by simp)
  ·rw [if_neg c6] at H
   exact absurd H (by simp)
 ·rw [if_neg c5] at H
  exact absurd H (by simp)
def footlockerlaw03_small.l0 : Nat → List (List Int) → List (List Int) → Int → Int → Option (Bool)
 | 0, _, _, _, _ => none
 | k + 1, x0, x5, x6, x7 => if x7 < x6 then (if 0 ≤ x7 then (if x7 < (x5.length : Int) then (if ((rd_L1 x5 x7).length : Int) > 20 then (some false) else (footlockerlaw03_small.l0 k x0 x5 x6 (wrap64 (x7 + 1)))) else (none)) else (none)) else (some (decide ((x0.length : Int) ≤ 20)))
def footlockerlaw03_small.f (k : Nat) (l0 : List (List Int)) : Option (Bool) := footlockerlaw03_small.l0 k l0 l0 (l0.length : Int) 0
set_option maxHeartbeats 8000000 in
set_option maxRecDepth 100000 in
theorem footlockerlaw03_small.calls (k : Nat) (A0 : Option Addr) (c0 : Nat) (l0 : List (List Int)) (r : Bool) (w : World) (hr0 : Kd.C (Kd.slice 5 (Kd.int .u8)) w A0 l0.length l0) (hc0 : l0.length ≤ c0) (h : footlockerlaw03_small.f k l0 = some r) :
 Calls Try.prog 10 #[.slice A0 l0.length c0] w fun e w' => e = .returned (.bool r) ∧ Drawn0 w w' := by
 have HR0 := Aside0.mk hr0
 have HC0 := Aside0.mk hc0
 clear hr0 hc0
 have H : (footlockerlaw03_small.l0 k l0 l0 (l0.length : Int) 0) = some r := h
 clear h
 have H' := Aside0.mk H
 clear H
 go_enter Try.func10, Try.ntmps10
 go_wp2
 go_loopg [7] k (fun kq v7 w' => ∃ (x7_1 : Int), v7 = .int .i64 x7_1 ∧ Aside0 (footlockerlaw03_small.l0 kq l0 l0 (l0.length : Int) x7_1 = some r) ∧ Aside0 (kq ≤ k) ∧ Drawn0 w w')
 case atStart => exact ⟨(0), (by first | rfl | (simp; done) | (simp [*]; done)), H', ⟨Nat.le_refl _⟩, by repeat (first | exact Drawn0.refl _ | apply Drawn0.step)⟩
 case round =>
  clear H'
  try clear c1
  obtain ⟨x7_1, rfl, HA, HK1, ⟨m1, rfl⟩⟩ := hrel
  cases gk with
  | zero => exact absurd HA.out (by simp [footlockerlaw03_small.l0])
  | succ k1 =>
   have H := HA.out
   clear HA
   simp only [footlockerlaw03_small.l0] at H
   by_cases c2 : x7_1 < (l0.length : Int)
   ·rw [if_pos c2] at H
    have c2b0 : decide (x7_1 < (l0.length : Int)) = true := decide_eq_true c2
    clear c2
    by_cases c3 : 0 ≤ x7_1
    ·rw [if_pos c3] at H
     have c3b0 : decide (0 ≤ x7_1) = true := decide_eq_true c3
     clear c3
     by_cases c4 : x7_1 < (l0.length : Int)
     ·rw [if_pos c4] at H
      have c4b0 : decide (x7_1 < (l0.length : Int)) = true := decide_eq_true c4
      clear c4
      by_cases c5 : ((rd_L1 l0 x7_1).length : Int) > 20
      ·rw [if_pos c5] at H
       have c5b0 : decide (20 < ((rd_L1 l0 x7_1).length : Int)) = true := decide_eq_true c5
       have c5b1 : decide (20 < (rd_L1 l0 x7_1).length) = true := decide_eq_true (by omega)
       clear c5
       obtain rfl := Option.some.inj H
       have p229 : 0 ≤ (x7_1 : Int) := of_decide_eq_true (by first | (with_reducible assumption) | assumption)
       have q229 : x7_1 < (l0.length : Int) := of_decide_eq_true (by first | (with_reducible assumption) | assumption)
       obtain ⟨ad229, A229_0, c229_0, e229, hx229_0, hl229_0, hi229_0⟩ := at_L1 HR0.out x7_1 p229 q229
       cases e229
       have HR229_0 := Aside0.mk hi229_0
       have HC229_0 := Aside0.mk hl229_0
       clear hi229_0 hl229_0
       replace p229 := eq_true p229
       replace q229 := eq_true q229
       go_wp2
       go_ret
       exact ⟨by first | rfl | (simp; done) | (simp [*]; done), by repeat (first | exact Drawn0.refl _ | apply Drawn0.step)⟩
      ·rw [if_neg c5] at H
       have c5b0 : decide (20 < ((rd_L1 l0 x7_1).length : Int)) = false := decide_eq_false c5
       have c5b1 : decide (20 < (rd_L1 l0 x7_1).length) = false := decide_eq_false (by omega)
       clear c5
       have H' := Aside0.mk H
       clear H
       have p229 : 0 ≤ (x7_1 : Int) := of_decide_eq_true (by first | (with_reducible assumption) | assumption)
       have q229 : x7_1 < (l0.length : Int) := of_decide_eq_true (by first | (with_reducible assumption) | assumption)
       obtain ⟨ad229, A229_0, c229_0, e229, hx229_0, hl229_0, hi229_0⟩ := at_L1 HR0.out x7_1 p229 q229
       cases e229
       have HR229_0 := Aside0.mk hi229_0
       have HC229_0 := Aside0.mk hl229_0
       clear hi229_0 hl229_0
       replace p229 := eq_true p229
       replace q229 := eq_true q229
       go_wp2
       go_roundg k1
       case measure => have := HK1.out; omega
       case rel => exact ⟨(wrap64 (x7_1 + 1)), (by first | rfl | (simp; done) | (simp [*]; done)), H', ⟨by have := HK1.out; omega⟩, by repeat (first | exact Drawn0.refl _ | apply Drawn0.step)⟩
     ·rw [if_neg c4] at H
      exact absurd H (by simp)
    ·rw [if_neg c3] at H
     exact absurd H (by simp)
   ·rw [if_neg c2] at H
    have c2b0 : decide (x7_1 < (l0.length : Int)) = false := decide_eq_false c2
    clear c2
    obtain rfl := Option.some.inj H
    go_wp2
    go_ret
    exact ⟨by first | rfl | (simp; done) | (simp [*]; done), by repeat (first | exact Drawn0.refl _ | apply Drawn0.step)⟩
def footlockerref03_Right.l0 : Nat → List (List Int) → Int → Option (Bool)
 | 0, _, _ => none
 | k + 1, x0, x3 => if x3 < (x0.length : Int) then (if 0 ≤ x3 then (if 0 < (x0.length : Int) then (if ((rd_L1 x0 x3).length : Int) = ((rd_L1 x0 0).length : Int) then (footlockerref03_Right.l0 k x0 (wrap64 (x3 + 1))) else (some false)) else (none)) else (none)) else (some true)
def footlockerref03_Right.f (k : Nat) (l0 : List (List Int)) : Option (Bool) := footlockerref03_Right.l0 k l0 1
set_option maxHeartbeats 8000000 in
set_option maxRecDepth 100000 in
theorem footlockerref03_Right.calls (k : Nat) (A0 : Option Addr) (c0 : Nat) (l0 : List (List Int)) (r : Bool) (w : World) (hr0 : Kd.C (Kd.slice 5 (Kd.int .u8)) w A0 l0.length l0) (hc0 : l0.length ≤ c0) (h : footlockerref03_Right.f k l0 = some r) :
 Calls Try.prog 14 #[.slice A0 l0.length c0] w fun e w' => e = .returned (.bool r) ∧ Drawn0 w w' := by
 have HR0 := Aside0.mk hr0
 have HC0 := Aside0.mk hc0
 clear hr0 hc0
 have H : (footlockerref03_Right.l0 k l0 1) = some r := h
 clear h
 have H' := Aside0.mk H
 clear H
 go_enter Try.func14, Try.ntmps14
 go_wp2
 repeat (go_quiet (fail); try go_wp2)
 go_loopg [3] k (fun kq v3 w' => ∃ (x3_1 : Int), v3 = .int .i64 x3_1 ∧ Aside0 (footlockerref03_Right.l0 kq l0 x3_1 = some r) ∧ Aside0 (kq ≤ k) ∧ Drawn0 w w')
 case atStart => exact ⟨(1), (by first | rfl | (simp; done) | (simp [*]; done)), H', ⟨Nat.le_refl _⟩, by repeat (first | exact Drawn0.refl _ | apply Drawn0.step)⟩
 case round =>
  clear H'
  try clear c1
  obtain ⟨x3_1, rfl, HA, HK1, ⟨m1, rfl⟩⟩ := hrel
  cases gk with
  | zero => exact absurd HA.out (by simp [footlockerref03_Right.l0])
  | succ k1 =>
   have H := HA.out
   clear HA
   simp only [footlockerref03_Right.l0] at H
   by_cases c2 : x3_1 < (l0.length : Int)
   ·rw [if_pos c2] at H
    have c2b0 : decide (x3_1 < (l0.length : Int)) = true := decide_eq_true c2
    clear c2
    by_cases c3 : 0 ≤ x3_1
    ·rw [if_pos c3] at H
     have c3b0 : decide (0 ≤ x3_1) = true := decide_eq_true c3
     clear c3
     by_cases c4 : 0 < (l0.length : Int)
     ·rw [if_pos c4] at H
      have c4b0 : decide (0 < (l0.length : Int)) = true := decide_eq_true c4
      have c4b1 : decide (0 < l0.length) = true := decide_eq_true (by omega)
      clear c4
      by_cases c5 : ((rd_L1 l0 x3_1).length : Int) = ((rd_L1 l0 0).length : Int)
      ·rw [if_pos c5] at H
       have c5b0 : (((rd_L1 l0 x3_1).length : Int) == ((rd_L1 l0 0).length : Int)) = true := beq_iff_eq.mpr c5
       have c5b1 : (((rd_L1 l0 x3_1).length : Int) != ((rd_L1 l0 0).length : Int)) = false := bne_eq_false_iff_eq.mpr c5
       have c5b2 : ((rd_L1 l0 x3_1).length == (rd_L1 l0 0).length) = true := by first | simpa using c5 | (simp at c5 ⊢; omega)
       clear c5
       have H' := Aside0.mk H
       clear H
       have p230 : 0 ≤ (x3_1 : Int) := of_decide_eq_true (by first | (with_reducible assumption) | assumption)
       have q230 : x3_1 < (l0.length : Int) := of_decide_eq_true (by first | (with_reducible assumption) | assumption)
       obtain ⟨ad230, A230_0, c230_0, e230, hx230_0, hl230_0, hi230_0⟩ := at_L1 HR0.out x3_1 p230 q230
       cases e230
       have HR230_0 := Aside0.mk hi230_0
       have HC230_0 := Aside0.mk hl230_0
       clear hi230_0 hl230_0
       replace p230 := eq_true p230
       replace q230 := eq_true q230
       have p231 : 0 ≤ (0 : Int) := (by omega)
       have q231 : 0 < (l0.length : Int) := of_decide_eq_true (by first | (with_reducible assumption) | assumption)
       obtain ⟨ad231, A231_0, c231_0, e231, hx231_0, hl231_0, hi231_0⟩ := at_L1 HR0.out 0 p231 q231
       obtain rfl : ad230 = ad231 := (by injection e231)
       have qi231 : (0 < l0.length) = True := eq_true (by omega)
       (try rw [show ((0 : Int)).toNat = 0 from rfl] at hx231_0)
       (try rw [Addr.add_zero'] at hx231_0)
       have HR231_0 := Aside0.mk hi231_0
       have HC231_0 := Aside0.mk hl231_0
       clear hi231_0 hl231_0
       replace p231 := eq_true p231
       replace q231 := eq_true q231
       go_wp2
       repeat (go_quiet (fail); try go_wp2)
       go_roundg k1
       case measure => have := HK1.out; omega
       case rel => exact ⟨(wrap64 (x3_1 + 1)), (by first | rfl | (simp; done) | (simp [*]; done)), H', ⟨by have := HK1.out; omega⟩, by repeat (first | exact Drawn0.refl _ | apply Drawn0.step)⟩
      ·rw [if_neg c5] at H
       have c5b0 : (((rd_L1 l0 x3_1).length : Int) == ((rd_L1 l0 0).length : Int)) = false := beq_eq_false_iff_ne.mpr c5
       have c5b1 : (((rd_L1 l0 x3_1).length : Int) != ((rd_L1 l0 0).length : Int)) = true := bne_iff_ne.mpr c5
       have c5b2 : ((rd_L1 l0 x3_1).length == (rd_L1 l0 0).length) = false := by first | simpa using c5 | (simp at c5 ⊢; omega)
       obtain rfl := Option.some.inj H
       have p230 : 0 ≤ (x3_1 : Int) := of_decide_eq_true (by first | (with_reducible assumption) | assumption)
       have q230 : x3_1 < (l0.length : Int) := of_decide_eq_true (by first | (with_reducible assumption) | assumption)
       obtain ⟨ad230, A230_0, c230_0, e230, hx230_0, hl230_0, hi230_0⟩ := at_L1 HR0.out x3_1 p230 q230
       cases e230
       have HR230_0 := Aside0.mk hi230_0
       have HC230_0 := Aside0.mk hl230_0
       clear hi230_0 hl230_0
       replace p230 := eq_true p230
       replace q230 := eq_true q230
       have p231 : 0 ≤ (0 : Int) := (by omega)
       have q231 : 0 < (l0.length : Int) := of_decide_eq_true (by first | (with_reducible assumption) | assumption)
       obtain ⟨ad231, A231_0, c231_0, e231, hx231_0, hl231_0, hi231_0⟩ := at_L1 HR0.out 0 p231 q231
       obtain rfl : ad230 = ad231 := (by injection e231)
       have qi231 : (0 < l0.length) = True := eq_true (by omega)
       (try rw [show ((0 : Int)).toNat = 0 from rfl] at hx231_0)
       (try rw [Addr.add_zero'] at hx231_0)
       have HR231_0 := Aside0.mk hi231_0
       have HC231_0 := Aside0.mk hl231_0
       clear hi231_0 hl231_0
       replace p231 := eq_true p231
       replace q231 := eq_true q231
       go_wp2
       repeat (go_quiet (fail); try go_wp2)
       go_ret
       exact ⟨by first | rfl | (simp; done) | (simp [*]; done), by repeat (first | exact Drawn0.refl _ | apply Drawn0.step)⟩
     ·rw [if_neg c4] at H
      exact absurd H (by simp)
    ·rw [if_neg c3] at H
     exact absurd H (by simp)
   ·rw [if_neg c2] at H
    have c2b0 : decide (x3_1 < (l0.length : Int)) = false := decide_eq_false c2
    clear c2
    obtain rfl := Option.some.inj H
    go_wp2
    repeat (go_quiet (fail); try go_wp2)
    go_ret
    exact ⟨by first | rfl | (simp; done) | (simp [*]; done), by repeat (first | exact Drawn0.refl _ | apply Drawn0.step)⟩
end Go.Proofs.Ytanknpdibjfmlaa.P
namespace Go.Proofs.Ytanknpdibjfmlaa.P
open Go.RowKit Go.Proofs.YtanknpdibjfmlaaW.PrintWords Go.Proofs.YtanknpdibjfmlaaW.PrintLast Go.Proofs.YtanknpdibjfmlaaW.PrintMore
attribute [local go_sem] max2_int min2_int max_two min_two max_three min_three max_four min_four
set_option linter.unusedVariables false
set_option linter.unusedSimpArgs false
def footlockerref01_Same.l0 : Nat → List Int → List Int → Int → Option (Bool)
 | 0, _, _, _ => none
 | k + 1, x0, x1, x5 => if x5 < (x0.length : Int) then (if 0 ≤ x5 then (if x5 < (x1.length : Int) then (if (rd x0 x5) = (rd x1 x5) then (footlockerref01_Same.l0 k x0 x1 (wrap64 (x5 + 1))) else (some false)) else (none)) else (none)) else (some true)
def footlockerref01_Same.f (k : Nat) (l0 : List Int) (l1 : List Int) : Option (Bool) := if (l0.length : Int) = (l1.length : Int) then (footlockerref01_Same.l0 k l0 l1 0) else (some false)
set_option maxHeartbeats 8000000 in
set_option maxRecDepth 100000 in
theorem footlockerref01_Same.calls (k : Nat) (A0 : Option Addr) (c0 : Nat) (l0 : List Int) (A1 : Option Addr) (c1 : Nat) (l1 : List Int) (r : Bool) (w : World) (hr0 : Kd.C (Kd.int .u8) w A0 l0.length l0) (hc0 : l0.length ≤ c0) (hr1 : Kd.C (Kd.int .u8) w A1 l1.length l1) (hc1 : l1.length ≤ c1) (h : footlockerref01_Same.f k l0 l1 = some r) :
 Calls Try.prog 18 #[.slice A0 l0.length c0, .slice A1 l1.length c1] w fun e w' => e = .returned (.bool r) ∧ Drawn0 w w' := by
 have HR0 := Aside0.mk hr0
 have HC0 := Aside0.mk hc0
 clear hr0 hc0
 have HR1 := Aside0.mk hr1
 have HC1 := Aside0.mk hc1
 clear hr1 hc1
 have H : (if (l0.length : Int) = (l1.length : Int) then (footlockerref01_Same.l0 k l0 l1 0) else (some false)) = some r := h
 clear h
 by_cases c3 : (l0.length : Int) = (l1.length : Int)
 ·rw [if_pos c3] at H
  have c3b0 : ((l0.length : Int) == (l1.length : Int)) = true := beq_iff_eq.mpr c3
  have c3b1 : ((l0.length : Int) != (l1.length : Int)) = false := bne_eq_false_iff_eq.mpr c3
  have c3b2 : (l0.length == l1.length) = true := by first | simpa using c3 | (simp at c3 ⊢; omega)
  clear c3
  have H' := Aside0.mk H
  clear H
  go_enter Try.func18, Try.ntmps18
  go_wp2
  repeat (go_quiet (fail); try go_wp2)
  go_loopg [5] k (fun kq v5 w' => ∃ (x5_1 : Int), v5 = .int .i64 x5_1 ∧ Aside0 (footlockerref01_Same.l0 kq l0 l1 x5_1 = some r) ∧ Aside0 (kq ≤ k) ∧ Drawn0 w w')
  case atStart => exact ⟨(0), (by first | rfl | (simp; done) | (simp [*]; done)), H', ⟨Nat.le_refl _⟩, by repeat (first | exact Drawn0.refl _ | apply Drawn0.step)⟩
  case round =>
   clear H'
   try clear c1
   try clear p2
   try clear c3
   try clear c3b0
   try clear c3b1
   try clear c3b2
   obtain ⟨x5_1, rfl, HA, HK1, ⟨m1, rfl⟩⟩ := hrel
   cases gk with
   | zero => exact absurd HA.out (by simp [footlockerref01_Same.l0])
   | succ k1 =>
    have H := HA.out
    clear HA
    simp only [footlockerref01_Same.l0] at H
    by_cases c4 : x5_1 < (l0.length : Int)
    ·rw [if_pos c4] at H
     have c4b0 : decide (x5_1 < (l0.length : Int)) = true := decide_eq_true c4
     clear c4
     by_cases c5 : 0 ≤ x5_1
     ·rw [if_pos c5] at H
      have c5b0 : decide (0 ≤ x5_1) = true := decide_eq_true c5
      clear c5
      by_cases c6 : x5_1 < (l1.length : Int)
      ·rw [if_pos c6] at H
       have c6b0 : decide (x5_1 < (l1.length : Int)) = true := decide_eq_true c6
       clear c6
       by_cases c7 : (rd l0 x5_1) = (rd l1 x5_1)
       ·rw [if_pos c7] at H
        have c7b0 : ((rd l0 x5_1) == (rd l1 x5_1)) = true := beq_iff_eq.mpr c7
        have c7b1 : ((rd l0 x5_1) != (rd l1 x5_1)) = false := bne_eq_false_iff_eq.mpr c7
        clear c7
        have H' := Aside0.mk H
        clear H
        have p239 : 0 ≤ (x5_1 : Int) := of_decide_eq_true (by first | (with_reducible assumption) | assumption)
        have q239 : x5_1 < (l0.length : Int) := of_decide_eq_true (by first | (with_reducible assumption) | assumption)
        obtain ⟨ad239, e239, hx239_0⟩ := Kd.at_int HR0.out x5_1 p239 q239
        cases e239
        replace p239 := eq_true p239
        replace q239 := eq_true q239
        have p240 : 0 ≤ (x5_1 : Int) := of_decide_eq_true (by first | (with_reducible assumption) | assumption)
        have q240 : x5_1 < (l1.length : Int) := of_decide_eq_true (by first | (with_reducible assumption) | assumption)
        obtain ⟨ad240, e240, hx240_0⟩ := Kd.at_int HR1.out x5_1 p240 q240
        cases e240
        replace p240 := eq_true p240
        replace q240 := eq_true q240
        go_wp2
        repeat (go_quiet (fail); try go_wp2)
        go_roundg k1
        case measure => have := HK1.out; omega
        case rel => exact ⟨(wrap64 (x5_1 + 1)), (by first | rfl | (simp; done) | (simp [*]; done)), H', ⟨by have := HK1.out; omega⟩, by repeat (first | exact Drawn0.refl _ | apply Drawn0.step)⟩
       ·rw [if_neg c7] at H
        have c7b0 : ((rd l0 x5_1) == (rd l1 x5_1)) = false := beq_eq_false_iff_ne.mpr c7
        have c7b1 : ((rd l0 x5_1) != (rd l1 x5_1)) = true := bne_iff_ne.mpr c7
        obtain rfl := Option.some.inj H
        have p239 : 0 ≤ (x5_1 : Int) := of_decide_eq_true (by first | (with_reducible assumption) | assumption)
        have q239 : x5_1 < (l0.length : Int) := of_decide_eq_true (by first | (with_reducible assumption) | assumption)
        obtain ⟨ad239, e239, hx239_0⟩ := Kd.at_int HR0.out x5_1 p239 q239
        cases e239
        replace p239 := eq_true p239
        replace q239 := eq_true q239
        have p240 : 0 ≤ (x5_1 : Int) := of_decide_eq_true (by first | (with_reducible assumption) | assumption)
        have q240 : x5_1 < (l1.length : Int) := of_decide_eq_true (by first | (with_reducible assumption) | assumption)
        obtain ⟨ad240, e240, hx240_0⟩ := Kd.at_int HR1.out x5_1 p240 q240
        cases e240
        replace p240 := eq_true p240
        replace q240 := eq_true q240
        go_wp2
        repeat (go_quiet (fail); try go_wp2)
        go_ret
        exact ⟨by first | rfl | (simp; done) | (simp [*]; done), by repeat (first | exact Drawn0.refl _ | apply Drawn0.step)⟩
      ·rw [if_neg c6] at H
       exact absurd H (by simp)
     ·rw [if_neg c5] at H
      exact absurd H (by simp)
    ·rw [if_neg c4] at H
     have c4b0 : decide (x5_1 < (l0.length : Int)) = false := decide_eq_false c4
     clear c4
     obtain rfl := Option.some.inj H
     go_wp2
     repeat (go_quiet (fail); try go_wp2)
     go_ret
     exact ⟨by first | rfl | (simp; done) | (simp [*]; done), by repeat (first | exact Drawn0.refl _ | apply Drawn0.step)⟩
 ·rw [if_neg c3] at H
  have c3b0 : ((l0.length : Int) == (l1.length : Int)) = false := beq_eq_false_iff_ne.mpr c3
  have c3b1 : ((l0.length : Int) != (l1.length : Int)) = true := bne_iff_ne.mpr c3
  have c3b2 : (l0.length == l1.length) = false := by first | simpa using c3 | (simp at c3 ⊢; omega)
  obtain rfl := Option.some.inj H
  go_enter Try.func18, Try.ntmps18
  go_wp2
  repeat (go_quiet (fail); try go_wp2)
  go_ret
  exact ⟨by first | rfl | (simp; done) | (simp [*]; done), by repeat (first | exact Drawn0.refl _ | apply Drawn0.step)⟩
def footlockerref03_Same.l0 : Nat → List (List Int) → List (List Int) → Int → Option (Bool)
 | 0, _, _, _ => none
 | k + 1, x0, x1, x5 => if x5 < (x0.length : Int) then (if 0 ≤ x5 then (if x5 < (x1.length : Int) then ((footlockerref01_Same.f k (rd_L1 x0 x5) (rd_L1 x1 x5)).bind fun t243 => (if t243 = true then (footlockerref03_Same.l0 k x0 x1 (wrap64 (x5 + 1))) else (some false))) else (none)) else (none)) else (some true)
def footlockerref03_Same.f (k : Nat) (l0 : List (List Int)) (l1 : List (List Int)) : Option (Bool) := if (l0.length : Int) = (l1.length : Int) then (footlockerref03_Same.l0 k l0 l1 0) else (some false)
end Go.Proofs.Ytanknpdibjfmlaa.P
