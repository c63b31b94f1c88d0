/- What the statement's proof uses: lemmas, and the program's functions as Lean functions; each theorem states its own conditions. Joined by a program. -/
import Derived.Test.YtndljfagojnidaaZWelchCountsA
namespace Go.Proofs.Ytndljfagojnidaa.P
open Go.RowKit Go.Proofs.YtndljfagojnidaaW.PrintWords Go.Proofs.YtndljfagojnidaaW.PrintLast Go.Proofs.YtndljfagojnidaaW.PrintMore
set_option linter.unusedVariables false
set_option linter.unusedSimpArgs false
set_option maxHeartbeats 8000000 in
set_option maxRecDepth 100000 in
theorem linear_pivot.calls (k : Nat) (v0 : Value) (l : List (List Int)) (a c : Int) (r1 : List (List Int)) (r2 : Bool) (w0 w : World) (hB : Below w0.heap.size w0 w) (ho : Kd.S (Kd.slice 5 (Kd.int .u8)) 22 w w0.heap.size (fun _ => True) v0 l) (h : linear_pivot.f k l a c = some (r1, r2)) :
 Calls Try.prog 48 #[v0, .int .i64 a, .int .i64 c] w fun e w' => e = .returned (.bool r2) ∧ Kd.S (Kd.slice 5 (Kd.int .u8)) 22 w' w0.heap.size (fun _ => True) v0 r1 ∧ Below w0.heap.size w0 w' ∧ Kept w w' (fun k => w0.heap.size ≤ k ∧ MatBlk w k) := by
 have HB := Aside0.mk hB
 clear hB
 unfold linear_pivot.f at h
 by_cases p1 : 0 ≤ a
 ·rw [if_pos p1] at h
  by_cases p2 : a < (l.length : Int)
  ·rw [if_pos p2] at h
   by_cases p3 : 0 ≤ c
   ·rw [if_pos p3] at h
    by_cases p4 : (l.all fun x => decide (c < (x.length : Int))) = true
    ·rw [if_pos p4] at h
     obtain ⟨an, rfl⟩ : ∃ n : Nat, a = n := ⟨a.toNat, by omega⟩
     obtain ⟨g, cap, ev, hg0, hg1, hcl⟩ := Kd.S_form ho (by omega)
     subst ev
     obtain ⟨_, hcap, hC⟩ := Kd.S_reads' ho
     have hmax : l.length ≤ 9223372036854775807 := hC.2.1
     have hlt : ∀ x ∈ l, c < (x.length : Int) := fun x hx => by simpa using List.all_eq_true.1 p4 x hx
     have hW : (w.alloc (.cells #[.int .i64 c] 3)).cell? ⟨w.heap.size, 0, none⟩ = some (.int .i64 c) := by
      rw [World.cell?_alloc_at _ _ _ _ rfl]; rfl
     have hD := Kd.C_alloc (Kd.C_drop (c := cap) hC (m := an) (by omega) hcap) (.cells #[.int .i64 c] 3)
     have eA : (Option.map (fun x : Addr => x.add (an * (Kd.slice 5 (Kd.int .u8)).sz)) (some ⟨g, 0, none⟩)) = some ⟨g, an, none⟩ := by
      show some (Addr.add ⟨g, 0, none⟩ (an * 1)) = _
      rw [Nat.mul_one, add_plain]
     rw [if_neg (by omega), eA] at hD
     rw [Int.toNat_natCast] at h
     obtain ⟨z, hz⟩ : ∃ z, fidx (fun x => !(rd x c == 0)) (l.drop an) 0 = z := ⟨_, rfl⟩
     have HC := Aside0.mk (slices_IndexFunc_38.calls w.heap.size (fun x => !(rd x c == 0)) _ (cap - an) (l.drop an) (w.alloc (.cells #[.int .i64 c] 3)) hD (by rw [List.length_drop]; omega)
      (fun m A cx x hx hCx hlx => linear_pivot_1.calls w.heap.size A cx x c _ hW hCx p3 (hlt x (List.mem_of_mem_drop hx))))
     have hzz := fidx_lt (fun x => !(rd x c == 0)) (l.drop an) 0
     rw [hz] at HC h hzz
     rw [List.length_drop] at hzz HC
     have HZ := Aside0.mk hzz
     have HG := Aside0.mk (show MatBlk w g from ⟨22, .inl rfl, hcl⟩)
     have HS := Aside0.mk (Kd.S_mono (Kd.S_alloc (Kd.S_elderB ho w.heap.size (Nat.le_refl _)) (.cells #[.int .i64 c] 3)) (ok' := fun k => k ≠ w.heap.size) (fun k hk => hk.2))
     have H := Aside0.mk h
     have HL := Aside0.mk hlt
     clear hzz h hlt hD hC ho p4 hcl
     have hmf : ∀ (fn : Fn) (first cap : Array Value) (w : World), (Instr.makeFunc fn first cap).run Try.prog w = .ok (.func fn first cap) w := fun _ _ _ _ => rfl
     by_cases hzn : z < 0
     ·have b1 : decide (z < 0) = true := decide_eq_true hzn
      have hh := H.out
      rw [if_pos hzn] at hh
      obtain ⟨rfl, rfl⟩ := Prod.mk.inj (Option.some.inj hh)
      go_enter Try.func48, Try.ntmps48
      go_wp2_with (first | (go_at_call 54; (with_reducible refine HC.out.mono ?_); rintro e w' ⟨rfl, ⟨nd, rfl⟩⟩))
      go_ret
      exact ⟨rfl, Kd.S_mono (Kd.S_drewN HS.out _) (fun _ _ => trivial), by repeat (first | (with_reducible first | exact HB.out | apply below_alloc | apply pw_below_drewN | apply below_drew1) | exact HB.out), by repeat (first | exact Kept.refl _ _ | apply Kept.drewN | apply Kept.alloc)⟩
     ·have b1 : decide (z < 0) = false := decide_eq_false hzn
      obtain ⟨zn, rfl⟩ : ∃ n : Nat, z = n := ⟨z.toNat, by omega⟩
      have hj : an + zn < l.length := by have := HZ.out; omega
      obtain ⟨A1, c1, A2, c2, hu1, hu2, hf1, hf2⟩ : ∃ A1 c1 A2 c2, (w.alloc (.cells #[.int .i64 c] 3)).cell? ⟨g, an, none⟩ = some (.slice A1 (rd_L2 l an).length c1) ∧ (w.alloc (.cells #[.int .i64 c] 3)).cell? ⟨g, ((an : Int) + (zn : Int)).toNat, none⟩ = some (.slice A2 (rd_L2 l ((an : Int) + (zn : Int))).length c2) ∧ (w.alloc (.cells #[.int .i64 c] 3)).frozen? ⟨g, an, none⟩ = false ∧ (w.alloc (.cells #[.int .i64 c] 3)).frozen? ⟨g, ((an : Int) + (zn : Int)).toNat, none⟩ = false := by
       obtain ⟨inner, hi⟩ := Kd.S_own HS.out
       obtain ⟨u1, _, _, h2⟩ := Mm.own_cell hi an (by omega)
       obtain ⟨u2, _, _, h4⟩ := Mm.own_cell hi ((an : Int) + (zn : Int)).toNat (by omega)
       obtain ⟨ad, A1, c1, e1, h1, _⟩ := at_L2 (Kd.S_reads' HS.out).2.2 (an : Int) (by omega) (by omega)
       cases e1
       obtain ⟨ad, A2, c2, e1, h3, _⟩ := at_L2 (Kd.S_reads' HS.out).2.2 ((an : Int) + (zn : Int)) (by omega) (by omega)
       cases e1
       rw [add_plain] at h1 h3
       exact ⟨A1, c1, A2, c2, h1, h3, h2, h4⟩
      have hx3 : ∀ m, ∃ u3, (((w.alloc (.cells #[.int .i64 c] 3)).drewN m).setCell ⟨g, an, none⟩ (.slice A2 (rd_L2 l ((an : Int) + (zn : Int))).length c2)).cell? ⟨g, ((an : Int) + (zn : Int)).toNat, none⟩ = some u3 ∧ (((w.alloc (.cells #[.int .i64 c] 3)).drewN m).setCell ⟨g, an, none⟩ (.slice A2 (rd_L2 l ((an : Int) + (zn : Int))).length c2)).frozen? ⟨g, ((an : Int) + (zn : Int)).toNat, none⟩ = false := by
       intro m
       obtain ⟨inner, hi⟩ := Kd.S_own (Kd.S_drewN HS.out m)
       obtain ⟨u, _, h1, h2⟩ := Mm.own_cell (Mm.own_set hi an (.slice A2 (rd_L2 l ((an : Int) + (zn : Int))).length c2)).1 ((an : Int) + (zn : Int)).toNat (by omega)
       exact ⟨u, h1, h2⟩
      have q1 : (0 : Int) ≤ (an : Int) + (zn : Int) := by omega
      have q2 : (an : Int) + (zn : Int) < (l.length : Int) := by omega
      have q3 : wrap64 ((an : Int) + (zn : Int)) = (an : Int) + (zn : Int) := by unfold wrap64; omega
      have q4 : IntKind.i64.wrap ((an : Int) + (zn : Int)) = (an : Int) + (zn : Int) := IntWalk.i64_in _ (by omega)
      go_enter Try.func48, Try.ntmps48
      go_wp2_with (first | (go_at_call 54; (with_reducible refine HC.out.mono ?_); rintro e w' ⟨rfl, ⟨nd, rfl⟩⟩))
      refine start_ (n := 20) (S := fun w' => w'.cell? ⟨g, an, none⟩ = some (.slice A1 (rd_L2 l an).length c1) ∧ w'.cell? ⟨g, ((an : Int) + (zn : Int)).toNat, none⟩ = some (.slice A2 (rd_L2 l ((an : Int) + (zn : Int))).length c2)) (ds := [17, 19]) #[false, false, false, false, false, false, false, false, false, false, false, false, false, false, false, false, false, false, false, false] (by kernel_rfl) rfl rfl ⟨hu1, hu2⟩ (fun hHeld => ?_)
      refine pure_ (i := 0) (N := some 17) (v := ?_) (a' := ?_) #[true, false, false, false, false, false, false, false, false, false, false, false, false, false, false, false, false, false, false, false] rfl rfl (by kernel_rfl) (fun _ _ _ h => h) (Or.inl ⟨by rfl, ?_⟩) ?_ ?_
      rotate_left
      ·intro w'
       go_simp
       with_reducible rfl
      rotate_left
      ·simp only [Act.put, List.setIfInBounds_toArray, List.set_cons_zero, List.set_cons_succ, i64_w, i32_w]
       rfl
      refine pure_ (i := 1) (N := some 18) (v := ?_) (a' := ?_) #[true, true, false, false, false, false, false, false, false, false, false, false, false, false, false, false, false, false, false, false] rfl rfl (by kernel_rfl) (fun _ _ _ h => h) (Or.inl ⟨by rfl, ?_⟩) ?_ ?_
      rotate_left
      ·intro w'
       go_simp
       with_reducible rfl
      rotate_left
      ·simp only [Act.put, List.setIfInBounds_toArray, List.set_cons_zero, List.set_cons_succ, i64_w, i32_w]
       rfl
      refine pure_ (i := 2) (N := some 19) (v := ?_) (a' := ?_) #[true, true, true, false, false, false, false, false, false, false, false, false, false, false, false, false, false, false, false, false] rfl rfl (by kernel_rfl) (fun _ _ _ h => h) (Or.inl ⟨by rfl, ?_⟩) ?_ ?_
      rotate_left
      ·intro w'
       go_simp
       with_reducible rfl
      rotate_left
      ·simp only [Act.put, List.setIfInBounds_toArray, List.set_cons_zero, List.set_cons_succ, i64_w, i32_w]
       rfl
      refine pure_ (i := 3) (N := some 20) (v := ?_) (a' := ?_) #[true, true, true, true, false, false, false, false, false, false, false, false, false, false, false, false, false, false, false, false] rfl rfl (by kernel_rfl) (fun _ _ _ h => h) (Or.inl ⟨by rfl, ?_⟩) ?_ ?_
      rotate_left
      ·intro w'
       go_simp
       with_reducible rfl
      rotate_left
      ·simp only [Act.put, List.setIfInBounds_toArray, List.set_cons_zero, List.set_cons_succ, i64_w, i32_w]
       rfl
      refine pure_ (i := 4) (N := some 21) (v := ?_) (a' := ?_) #[true, true, true, true, true, false, false, false, false, false, false, false, false, false, false, false, false, false, false, false] rfl rfl (by kernel_rfl) (fun _ _ _ h => h) (Or.inl ⟨by rfl, ?_⟩) ?_ ?_
      rotate_left
      ·intro w'
       go_simp
       with_reducible rfl
      rotate_left
      ·simp only [Act.put, List.setIfInBounds_toArray, List.set_cons_zero, List.set_cons_succ, i64_w, i32_w]
       rfl
      refine pure_ (i := 5) (N := some 22) (v := ?_) (a' := ?_) #[true, true, true, true, true, true, false, false, false, false, false, false, false, false, false, false, false, false, false, false] rfl rfl (by kernel_rfl) (fun _ _ _ h => h) (Or.inl ⟨by rfl, ?_⟩) ?_ ?_
      rotate_left
      ·intro w'
       go_simp
       with_reducible rfl
      rotate_left
      ·simp only [Act.put, List.setIfInBounds_toArray, List.set_cons_zero, List.set_cons_succ, i64_w, i32_w]
       rfl
      refine pure_ (i := 6) (N := some 23) (v := ?_) (a' := ?_) #[true, true, true, true, true, true, true, false, false, false, false, false, false, false, false, false, false, false, false, false] rfl rfl (by kernel_rfl) (fun _ _ _ h => h) (Or.inl ⟨by rfl, ?_⟩) ?_ ?_
      rotate_left
      ·intro w'
       go_simp
       with_reducible rfl
      rotate_left
      ·simp only [Act.put, List.setIfInBounds_toArray, List.set_cons_zero, List.set_cons_succ, i64_w, i32_w]
       rfl
      refine pure_ (i := 7) (N := some 24) (v := ?_) (a' := ?_) #[true, true, true, true, true, true, true, true, false, false, false, false, false, false, false, false, false, false, false, false] rfl rfl (by kernel_rfl) (fun _ _ _ h => h) (Or.inl ⟨by rfl, ?_⟩) ?_ ?_
      rotate_left
      ·intro w'
       go_simp
       with_reducible rfl
      rotate_left
      ·simp only [Act.put, List.setIfInBounds_toArray, List.set_cons_zero, List.set_cons_succ, i64_w, i32_w]
       rfl
      refine pure_ (i := 8) (N := some 25) (v := ?_) (a' := ?_) #[true, true, true, true, true, true, true, true, true, false, false, false, false, false, false, false, false, false, false, false] rfl rfl (by kernel_rfl) (fun _ _ _ h => h) (Or.inl ⟨by rfl, ?_⟩) ?_ ?_
      rotate_left
      ·intro w'
       go_simp
       with_reducible rfl
      rotate_left
      ·simp only [Act.put, List.setIfInBounds_toArray, List.set_cons_zero, List.set_cons_succ, i64_w, i32_w]
       rfl
      refine pure_ (i := 9) (N := some 26) (v := ?_) (a' := ?_) #[true, true, true, true, true, true, true, true, true, true, false, false, false, false, false, false, false, false, false, false] rfl rfl (by kernel_rfl) (fun _ _ _ h => h) (Or.inl ⟨by rfl, ?_⟩) ?_ ?_
      rotate_left
      ·intro w'
       go_simp
       with_reducible rfl
      rotate_left
      ·simp only [Act.put, List.setIfInBounds_toArray, List.set_cons_zero, List.set_cons_succ, i64_w, i32_w]
       rfl
      refine pure_ (i := 10) (N := some 27) (v := ?_) (a' := ?_) #[true, true, true, true, true, true, true, true, true, true, true, false, false, false, false, false, false, false, false, false] rfl rfl (by kernel_rfl) (fun _ _ _ h => h) (Or.inl ⟨by rfl, ?_⟩) ?_ ?_
      rotate_left
      ·intro w'
       go_simp
       with_reducible rfl
      rotate_left
      ·simp only [Act.put, List.setIfInBounds_toArray, List.set_cons_zero, List.set_cons_succ, i64_w, i32_w]
       rfl
      refine pure_ (i := 12) (N := some 29) (v := ?_) (a' := ?_) #[true, true, true, true, true, true, true, true, true, true, true, false, true, false, false, false, false, false, false, false] rfl rfl (by kernel_rfl) (fun _ _ _ h => h) (Or.inl ⟨by rfl, ?_⟩) ?_ ?_
      rotate_left
      ·intro w'
       go_simp
       with_reducible rfl
      rotate_left
      ·simp only [Act.put, List.setIfInBounds_toArray, List.set_cons_zero, List.set_cons_succ, i64_w, i32_w]
       rfl
      refine pure_ (i := 13) (N := some 30) (v := ?_) (a' := ?_) #[true, true, true, true, true, true, true, true, true, true, true, false, true, true, false, false, false, false, false, false] rfl rfl (by kernel_rfl) (fun _ _ _ h => h) (Or.inl ⟨by rfl, ?_⟩) ?_ ?_
      rotate_left
      ·intro w'
       go_simp
       with_reducible rfl
      rotate_left
      ·simp only [Act.put, List.setIfInBounds_toArray, List.set_cons_zero, List.set_cons_succ, i64_w, i32_w]
       rfl
      refine pure_ (i := 14) (N := some 31) (v := ?_) (a' := ?_) #[true, true, true, true, true, true, true, true, true, true, true, false, true, true, true, false, false, false, false, false] rfl rfl (by kernel_rfl) (fun _ _ _ h => h) (Or.inl ⟨by rfl, ?_⟩) ?_ ?_
      rotate_left
      ·intro w'
       go_simp
       with_reducible rfl
      rotate_left
      ·simp only [Act.put, List.setIfInBounds_toArray, List.set_cons_zero, List.set_cons_succ, i64_w, i32_w]
       rfl
      refine take_ (i := 11) (N := some 28) (v := ?_) (a' := ?_) #[true, true, true, true, true, true, true, true, true, true, true, true, true, true, true, false, false, false, false, false] rfl rfl (by kernel_rfl) (fun _ _ _ h => h) (Or.inl ⟨by rfl, ?_⟩) hHeld ?_ ?_
      rotate_left
      ·rintro w' ⟨s0, s1⟩
       go_simp
       with_reducible rfl
      rotate_left
      ·simp only [Act.put, List.setIfInBounds_toArray, List.set_cons_zero, List.set_cons_succ, i64_w, i32_w]
       rfl
      refine take_ (i := 15) (N := some 32) (v := ?_) (a' := ?_) #[true, true, true, true, true, true, true, true, true, true, true, true, true, true, true, true, false, false, false, false] rfl rfl (by kernel_rfl) (fun _ _ _ h => h) (Or.inl ⟨by rfl, ?_⟩) hHeld ?_ ?_
      rotate_left
      ·rintro w' ⟨s0, s1⟩
       go_simp
       with_reducible rfl
      rotate_left
      ·simp only [Act.put, List.setIfInBounds_toArray, List.set_cons_zero, List.set_cons_succ, i64_w, i32_w]
       rfl
      refine pure_ (i := 16) (N := some 33) (v := ?_) (a' := ?_) #[true, true, true, true, true, true, true, true, true, true, true, true, true, true, true, true, true, false, false, false] rfl rfl (by kernel_rfl) (fun _ _ _ h => h) (Or.inl ⟨by rfl, ?_⟩) ?_ ?_
      rotate_left
      ·intro w'
       go_simp
       with_reducible rfl
      rotate_left
      ·simp only [Act.put, List.setIfInBounds_toArray, List.set_cons_zero, List.set_cons_succ, i64_w, i32_w]
       rfl
      refine last_ (i := 17) (N := none) #[true, true, true, true, true, true, true, true, true, true, true, true, true, true, true, true, true, true, false, false] rfl rfl (by kernel_rfl) (by decide) (fun K hK => ?_)
      refine skip_ (w1 := ?_) (by rfl) rfl ?_ ?_
      rotate_left
      ·go_simp
       rfl
      obtain ⟨u3, hu3, hf3⟩ := hx3 (nd + 1)
      refine hK.out _ _ ?_
      clear hK K
      refine pure_ (i := 18) (N := some 34) (v := ?_) (a' := ?_) #[true, true, true, true, true, true, true, true, true, true, true, true, true, true, true, true, true, true, true, false] rfl rfl (by kernel_rfl) (fun _ _ _ h => h) (Or.inl ⟨by rfl, ?_⟩) ?_ ?_
      rotate_left
      ·intro w'
       go_simp
       with_reducible rfl
      rotate_left
      ·simp only [Act.put, List.setIfInBounds_toArray, List.set_cons_zero, List.set_cons_succ, i64_w, i32_w]
       rfl
      refine last_ (i := 19) (N := none) #[true, true, true, true, true, true, true, true, true, true, true, true, true, true, true, true, true, true, true, true] rfl rfl (by kernel_rfl) (by decide) (fun K hK => ?_)
      refine skip_ (w1 := ?_) (by rfl) rfl ?_ ?_
      rotate_left
      ·go_simp
       rfl
      refine hK.out _ _ ?_
      clear hK K
      refine done_ (by kernel_rfl) ?_
      have hw5 := Mm.S_swap (Kd.S_drewN HS.out (nd + 1)) an ((an : Int) + (zn : Int)).toNat (by omega) (by omega) hu1 hu2
      have hb5 : Below w0.heap.size w0 ((((w.alloc (.cells #[.int .i64 c] 3)).drewN (nd + 1)).setCell ⟨g, an, none⟩ (.slice A2 (rd_L2 l ((an : Int) + (zn : Int))).length c2)).setCell ⟨g, ((an : Int) + (zn : Int)).toNat, none⟩ (.slice A1 (rd_L2 l an).length c1)) := below_set (below_set (pw_below_drewN (below_alloc HB.out _) _) hg0) hg0
      have hk5 : Kept w ((((w.alloc (.cells #[.int .i64 c] 3)).drewN (nd + 1)).setCell ⟨g, an, none⟩ (.slice A2 (rd_L2 l ((an : Int) + (zn : Int))).length c2)).setCell ⟨g, ((an : Int) + (zn : Int)).toNat, none⟩ (.slice A1 (rd_L2 l an).length c1)) (fun k => w0.heap.size ≤ k ∧ MatBlk w k) := Kept.setCell (Kept.setCell (Kept.drewN (Kept.alloc (Kept.refl _ _) _) _) (.inl ⟨hg0, HG.out⟩) _) (.inl ⟨hg0, HG.out⟩) _
      have hc5 : ((((w.alloc (.cells #[.int .i64 c] 3)).drewN (nd + 1)).setCell ⟨g, an, none⟩ (.slice A2 (rd_L2 l ((an : Int) + (zn : Int))).length c2)).setCell ⟨g, ((an : Int) + (zn : Int)).toNat, none⟩ (.slice A1 (rd_L2 l an).length c1)).cell? ⟨w.heap.size, 0, none⟩ = some (.int .i64 c) := by
       rw [World.cell?_setCell_far _ ⟨g, _, none⟩ ⟨w.heap.size, 0, none⟩ _ (by show g ≠ w.heap.size; omega), World.cell?_setCell_far _ ⟨g, _, none⟩ ⟨w.heap.size, 0, none⟩ _ (by show g ≠ w.heap.size; omega)]
       exact hW
      clear hu1 hu2 hf1 hf2 hx3 hu3 hf3
      generalize ((((w.alloc (.cells #[.int .i64 c] 3)).drewN (nd + 1)).setCell ⟨g, an, none⟩ (.slice A2 (rd_L2 l ((an : Int) + (zn : Int))).length c2)).setCell ⟨g, ((an : Int) + (zn : Int)).toNat, none⟩ (.slice A1 (rd_L2 l an).length c1)) = w5 at hw5 hb5 hk5 hc5 ⊢
      obtain ⟨l1, hl1⟩ : ∃ x, linear_pivot.sw l an ((an : Int) + (zn : Int)).toNat = x := ⟨_, rfl⟩
      have hln : l1.length = l.length := by rw [← hl1]; simp [linear_pivot.sw]
      have hget : rd_L2 l1 (an : Int) = rd_L2 l ((an : Int) + (zn : Int)) := by
       rw [← hl1]
       exact linear_pivot.sw_get l an _ (by omega) (by omega)
      have hcl1 : c < ((rd_L2 l1 (an : Int)).length : Int) := by
       rw [hget]
       refine HL.out _ ?_
       rw [rd_L2, List.getD_eq_getElem?_getD, List.getElem?_eq_getElem (by omega)]
       exact List.getElem_mem _
      have hh := H.out
      rw [hl1, if_neg (show ¬ (zn : Int) < 0 by omega)] at hh
      replace hh := Option.bind_eq_some_iff.mp hh
      obtain ⟨v, hv, hh⟩ := hh
      replace hh := Option.bind_eq_some_iff.mp hh
      obtain ⟨s, hs, hh⟩ := hh
      replace hh := Option.bind_eq_some_iff.mp hh
      obtain ⟨l2, hl2, hh⟩ := hh
      obtain ⟨rfl, rfl⟩ := Prod.mk.inj (Option.some.inj hh)
      have hw5' : Kd.S (Kd.slice 5 (Kd.int .u8)) 22 w5 w0.heap.size (fun k => k ≠ w.heap.size) (.slice (some ⟨g, 0, none⟩) l.length cap) l1 := by rw [← hl1]; exact hw5
      have HS5 := Aside0.mk hw5'
      have HV := Aside0.mk hv
      have HSC := Aside0.mk hs
      have HL2 := Aside0.mk hl2
      have HB5 := Aside0.mk hb5
      have HK5 := Aside0.mk hk5
      obtain ⟨ad, A3, c3, e1, hy1, hl3, hC3⟩ := at_L2 (Kd.S_reads' HS5.out).2.2 (an : Int) (by omega) (by omega)
      cases e1
      rw [add_plain, Int.toNat_natCast] at hy1
      obtain ⟨ad3, e1, hy2⟩ := Kd.at_int hC3 c p3 hcl1
      cases e1
      have hy3 := hc5
      have HC3 := Aside0.mk hC3
      have HL3 := Aside0.mk hl3
      have HLN := Aside0.mk hln
      have HAN := Aside0.mk (show an < l.length by omega)
      have r1 : (0 : Int) ≤ (an : Int) := p1
      have r2 : (an : Int) < (l.length : Int) := p2
      clear q3 q4 hget hC3 hl3 hw5 hw5' hv hs hl2 hb5 hk5 hc5 hh H HC HS hW
      go_wp2
      refine start_ (n := 17) (S := fun w' => w'.cell? ⟨g, an, none⟩ = some (.slice (some ad3) (rd_L2 l1 (an : Int)).length c3) ∧ w'.cell? (ad3.add c.toNat) = some (.int .u8 (rd (rd_L2 l1 (an : Int)) c)) ∧ w'.cell? ⟨w.heap.size, 0, none⟩ = some (.int .i64 c)) (ds := [16]) #[false, false, false, false, false, false, false, false, false, false, false, false, false, false, false, false, false] (by kernel_rfl) rfl rfl ⟨hy1, hy2, hy3⟩ (fun hHeld => ?_)
      refine pure_ (i := 0) (N := some 35) (v := ?_) (a' := ?_) #[true, false, false, false, false, false, false, false, false, false, false, false, false, false, false, false, false] rfl rfl (by kernel_rfl) (fun _ _ _ h => h) (Or.inl ⟨by rfl, ?_⟩) ?_ ?_
      rotate_left
      ·intro w'
       go_simp
       with_reducible rfl
      rotate_left
      ·simp only [Act.put, List.setIfInBounds_toArray, List.set_cons_zero, List.set_cons_succ, i64_w, i32_w]
       rfl
      refine pure_ (i := 1) (N := some 36) (v := ?_) (a' := ?_) #[true, true, false, false, false, false, false, false, false, false, false, false, false, false, false, false, false] rfl rfl (by kernel_rfl) (fun _ _ _ h => h) (Or.inl ⟨by rfl, ?_⟩) ?_ ?_
      rotate_left
      ·intro w'
       go_simp
       with_reducible rfl
      rotate_left
      ·simp only [Act.put, List.setIfInBounds_toArray, List.set_cons_zero, List.set_cons_succ, i64_w, i32_w]
       rfl
      refine pure_ (i := 2) (N := some 37) (v := ?_) (a' := ?_) #[true, true, true, false, false, false, false, false, false, false, false, false, false, false, false, false, false] rfl rfl (by kernel_rfl) (fun _ _ _ h => h) (Or.inl ⟨by rfl, ?_⟩) ?_ ?_
      rotate_left
      ·intro w'
       go_simp
       with_reducible rfl
      rotate_left
      ·simp only [Act.put, List.setIfInBounds_toArray, List.set_cons_zero, List.set_cons_succ, i64_w, i32_w]
       rfl
      refine pure_ (i := 3) (N := some 38) (v := ?_) (a' := ?_) #[true, true, true, true, false, false, false, false, false, false, false, false, false, false, false, false, false] rfl rfl (by kernel_rfl) (fun _ _ _ h => h) (Or.inl ⟨by rfl, ?_⟩) ?_ ?_
      rotate_left
      ·intro w'
       go_simp
       with_reducible rfl
      rotate_left
      ·simp only [Act.put, List.setIfInBounds_toArray, List.set_cons_zero, List.set_cons_succ, i64_w, i32_w]
       rfl
      refine pure_ (i := 4) (N := some 39) (v := ?_) (a' := ?_) #[true, true, true, true, true, false, false, false, false, false, false, false, false, false, false, false, false] rfl rfl (by kernel_rfl) (fun _ _ _ h => h) (Or.inl ⟨by rfl, ?_⟩) ?_ ?_
      rotate_left
      ·intro w'
       go_simp
       with_reducible rfl
      rotate_left
      ·simp only [Act.put, List.setIfInBounds_toArray, List.set_cons_zero, List.set_cons_succ, i64_w, i32_w]
       rfl
      refine pure_ (i := 6) (N := some 41) (v := ?_) (a' := ?_) #[true, true, true, true, true, false, true, false, false, false, false, false, false, false, false, false, false] rfl rfl (by kernel_rfl) (fun _ _ _ h => h) (Or.inl ⟨by rfl, ?_⟩) ?_ ?_
      rotate_left
      ·intro w'
       go_simp
       with_reducible rfl
      rotate_left
      ·simp only [Act.put, List.setIfInBounds_toArray, List.set_cons_zero, List.set_cons_succ, i64_w, i32_w]
       rfl
      refine pure_ (i := 7) (N := some 42) (v := ?_) (a' := ?_) #[true, true, true, true, true, false, true, true, false, false, false, false, false, false, false, false, false] rfl rfl (by kernel_rfl) (fun _ _ _ h => h) (Or.inl ⟨by rfl, ?_⟩) ?_ ?_
      rotate_left
      ·intro w'
       go_simp
       with_reducible rfl
      rotate_left
      ·simp only [Act.put, List.setIfInBounds_toArray, List.set_cons_zero, List.set_cons_succ, i64_w, i32_w]
       rfl
      refine pure_ (i := 8) (N := some 43) (v := ?_) (a' := ?_) #[true, true, true, true, true, false, true, true, true, false, false, false, false, false, false, false, false] rfl rfl (by kernel_rfl) (fun _ _ _ h => h) (Or.inl ⟨by rfl, ?_⟩) ?_ ?_
      rotate_left
      ·intro w'
       go_simp
       with_reducible rfl
      rotate_left
      ·simp only [Act.put, List.setIfInBounds_toArray, List.set_cons_zero, List.set_cons_succ, i64_w, i32_w]
       rfl
      refine take_ (i := 5) (N := some 40) (v := ?_) (a' := ?_) #[true, true, true, true, true, true, true, true, true, false, false, false, false, false, false, false, false] rfl rfl (by kernel_rfl) (fun _ _ _ h => h) (Or.inl ⟨by rfl, ?_⟩) hHeld ?_ ?_
      rotate_left
      ·rintro w' ⟨s0, s1, s2⟩
       go_simp
       with_reducible rfl
      rotate_left
      ·simp only [Act.put, List.setIfInBounds_toArray, List.set_cons_zero, List.set_cons_succ, i64_w, i32_w]
       rfl
      refine take_ (i := 9) (N := some 44) (v := ?_) (a' := ?_) #[true, true, true, true, true, true, true, true, true, true, false, false, false, false, false, false, false] rfl rfl (by kernel_rfl) (fun _ _ _ h => h) (Or.inl ⟨by rfl, ?_⟩) hHeld ?_ ?_
      rotate_left
      ·rintro w' ⟨s0, s1, s2⟩
       go_simp
       with_reducible rfl
      rotate_left
      ·simp only [Act.put, List.setIfInBounds_toArray, List.set_cons_zero, List.set_cons_succ, i64_w, i32_w]
       rfl
      refine take_ (i := 10) (N := some 45) (v := ?_) (a' := ?_) #[true, true, true, true, true, true, true, true, true, true, true, false, false, false, false, false, false] rfl rfl (by kernel_rfl) (fun _ _ _ h => h) (Or.inl ⟨by rfl, ?_⟩) hHeld ?_ ?_
      rotate_left
      ·rintro w' ⟨s0, s1, s2⟩
       go_simp
       with_reducible rfl
      rotate_left
      ·simp only [Act.put, List.setIfInBounds_toArray, List.set_cons_zero, List.set_cons_succ, i64_w, i32_w]
       rfl
      refine pure_ (i := 11) (N := some 46) (v := ?_) (a' := ?_) #[true, true, true, true, true, true, true, true, true, true, true, true, false, false, false, false, false] rfl rfl (by kernel_rfl) (fun _ _ _ h => h) (Or.inl ⟨by rfl, ?_⟩) ?_ ?_
      rotate_left
      ·intro w'
       go_simp
       with_reducible rfl
      rotate_left
      ·simp only [Act.put, List.setIfInBounds_toArray, List.set_cons_zero, List.set_cons_succ, i64_w, i32_w]
       rfl
      refine take_ (i := 12) (N := some 47) (v := ?_) (a' := ?_) #[true, true, true, true, true, true, true, true, true, true, true, true, true, false, false, false, false] rfl rfl (by kernel_rfl) (fun _ _ _ h => h) (Or.inl ⟨by rfl, ?_⟩) hHeld ?_ ?_
      rotate_left
      ·rintro w' ⟨s0, s1, s2⟩
       go_simp
       with_reducible rfl
      rotate_left
      ·simp only [Act.put, List.setIfInBounds_toArray, List.set_cons_zero, List.set_cons_succ, i64_w, i32_w]
       rfl
      refine one_ (i := 13) (N := some 48) #[true, true, true, true, true, true, true, true, true, true, true, true, true, true, false, false, false] rfl rfl (by kernel_rfl) (by decide) (fun K hK => ?_)
      refine goes_ Try.func51 (by kernel_rfl) rfl #[.int .u8 (rd (rd_L2 l1 (an : Int)) c)] (by rfl) rfl rfl (by simp only [List.map_toArray, List.map_cons, List.map_nil]; rfl) ?_
      with_reducible refine (gf_Inv.calls k _ v _ HV.out).mono ?_
      rintro e w7 ⟨rfl, ⟨n7, rfl⟩⟩
      refine ⟨_, rfl, ?_⟩
      refine hK.out _ _ ⟨hHeld.1, hHeld.2.1, hHeld.2.2⟩ (fun hHeld => ?_)
      clear hK K
      refine norm_ (a' := ?_) ?_ ?_
      rotate_left
      ·show Act.put _ (some 48) _ = _
       simp only [Act.put, List.setIfInBounds_toArray, List.set_cons_zero, List.set_cons_succ, i64_w, i32_w]
       rfl
      refine one_ (i := 14) (N := some 49) #[true, true, true, true, true, true, true, true, true, true, true, true, true, true, true, false, false] rfl rfl (by kernel_rfl) (by decide) (fun K hK => ?_)
      refine goes_ Try.func56 (by kernel_rfl) rfl #[.slice (some ad3) (rd_L2 l1 (an : Int)).length c3, .int .u8 v] (by rfl) rfl rfl (by simp only [List.map_toArray, List.map_cons, List.map_nil]; rfl) ?_
      with_reducible refine (gf_Scale.calls k _ _ _ _ s _ (Kd.C_drewN (Kd.C_drew HC3.out) n7) HL3.out HSC.out).mono ?_
      rintro e w8 ⟨v3, rfl, ho3, hb3⟩
      refine ⟨_, rfl, ?_⟩
      obtain ⟨A4, c4, e4⟩ := Kd.R_slice ho3
      subst e4
      have HO3 := Aside0.mk ho3
      have HB3 := Aside0.mk hb3
      obtain ⟨hx4, hf4⟩ : (∃ u, w8.cell? ⟨g, an, none⟩ = some u) ∧ w8.frozen? ⟨g, an, none⟩ = false := by
       obtain ⟨inner, hi⟩ := Kd.S_own (Kd.S_below (Kd.S_drewN (Kd.S_drew HS5.out) n7) hb3)
       rw [HLN.out] at hi
       obtain ⟨u, _, h1, h2⟩ := Mm.own_cell hi an HAN.out
       exact ⟨⟨u, h1⟩, h2⟩
      obtain ⟨u4, hu4⟩ := hx4
      clear ho3
      refine hK.out _ _ ⟨(hb3.cell (World.block_lt_of_cell? _ _ hHeld.1)).trans hHeld.1, (hb3.cell (World.block_lt_of_cell? _ _ hHeld.2.1)).trans hHeld.2.1, (hb3.cell (World.block_lt_of_cell? _ _ hHeld.2.2)).trans hHeld.2.2⟩ (fun hHeld => ?_)
      clear hK K
      refine norm_ (a' := ?_) ?_ ?_
      rotate_left
      ·show Act.put _ (some 49) _ = _
       simp only [Act.put, List.setIfInBounds_toArray, List.set_cons_zero, List.set_cons_succ, i64_w, i32_w]
       rfl
      refine pure_ (i := 15) (N := some 50) (v := ?_) (a' := ?_) #[true, true, true, true, true, true, true, true, true, true, true, true, true, true, true, true, false] rfl rfl (by kernel_rfl) (fun _ _ _ h => h) (Or.inl ⟨by rfl, ?_⟩) ?_ ?_
      rotate_left
      ·intro w'
       go_simp
       with_reducible rfl
      rotate_left
      ·simp only [Act.put, List.setIfInBounds_toArray, List.set_cons_zero, List.set_cons_succ, i64_w, i32_w]
       rfl
      refine last_ (i := 16) (N := none) #[true, true, true, true, true, true, true, true, true, true, true, true, true, true, true, true, true] rfl rfl (by kernel_rfl) (by decide) (fun K hK => ?_)
      refine skip_ (w1 := ?_) (by rfl) rfl ?_ ?_
      rotate_left
      ·go_simp
       rfl
      refine hK.out _ _ ?_
      clear hK K
      refine done_ (by kernel_rfl) ?_
      have hw6 := Mm.S_replace (Kd.S_drewN (Kd.S_drew HS5.out) n7) an HAN.out HB3.out (by exact HB5.out.size) (fun k hk => by have := World.block_lt_of_cell? _ _ hy3; have hk' : w5.heap.size ≤ k := hk; have h2 : w.heap.size < w5.heap.size := this; omega) HO3.out
      have HS6 := Aside0.mk hw6.1
      have HB6 := Aside0.mk (below_set (j := an) (v := .slice A4 s.length c4) (below_step (pw_below_drewN (below_drew1 HB5.out) n7) HB3.out) hg0)
      have HK6 := Aside0.mk (Kept.setCell (p := ⟨g, an, none⟩) (Kept.below (Kept.drewN (Kept.drew HK5.out) n7) HB3.out) (.inl ⟨hg0, HG.out⟩) (.slice A4 s.length c4))
      have hc6 : (w8.setCell ⟨g, an, none⟩ (.slice A4 s.length c4)).cell? ⟨w.heap.size, 0, none⟩ = some (.int .i64 c) := by
       rw [World.cell?_setCell_far _ ⟨g, _, none⟩ ⟨w.heap.size, 0, none⟩ _ (by show g ≠ w.heap.size; omega)]
       exact (hb3.cell (World.block_lt_of_cell? _ _ hy3)).trans hy3
      have HX6 := Aside0.mk hc6
      clear hw6 hb3 HO3 HB3 hu4 hf4 hy1 hy2 hy3 HS5 HB5 HK5 HC3 HL3 hc6 hHeld
      generalize w8.setCell ⟨g, an, none⟩ (.slice A4 s.length c4) = wA at HS6 HB6 HK6 HX6 ⊢
      go_wp2
      go_loopg [53] k (fun kq v53 w' => ∃ (x : List (List Int)) (i : Int), v53 = .int .i64 i ∧ Aside0 (linear_pivot.l0 kq x an c (l.length : Int) i = some l2) ∧ Aside0 (kq ≤ k) ∧ Aside0 (Kd.S (Kd.slice 5 (Kd.int .u8)) 22 w' w0.heap.size (fun k => k ≠ w.heap.size) (.slice (some ⟨g, 0, none⟩) l.length cap) x) ∧ Aside0 (Below w0.heap.size w0 w') ∧ Aside0 (Kept w w' (fun k => w0.heap.size ≤ k ∧ MatBlk w k)) ∧ Aside0 (w'.cell? ⟨w.heap.size, 0, none⟩ = some (.int .i64 c)))
      case atStart => exact ⟨_, 0, rfl, HL2, ⟨Nat.le_refl _⟩, HS6, HB6, HK6, HX6⟩
      case round =>
       clear HL2 HS6 HB6 HK6 HX6
       obtain ⟨x, i, rfl, HA, HK1, HS, HB, HK, HX⟩ := hrel
       cases gk with
       | zero => exact absurd HA.out (by simp [linear_pivot.l0])
       | succ k1 =>
        have H := HA.out
        clear HA
        simp only [linear_pivot.l0] at H
        have hxl := (Kd.S_reads' HS.out).1
        by_cases t1 : i < (l.length : Int)
        ·rw [if_pos t1] at H
         by_cases t2 : 0 ≤ i
         ·rw [if_pos t2] at H
          by_cases t3 : i < (x.length : Int)
          ·rw [if_pos t3] at H
           by_cases t4 : (an : Int) < (x.length : Int)
           ·rw [if_pos r1, if_pos t4] at H
            have t1b : decide (i < (l.length : Int)) = true := decide_eq_true t1
            obtain ⟨ad, A6, c6, e1, hx6, hl6, hC6⟩ := at_L2 (Kd.S_reads' HS.out).2.2 i t2 t3
            cases e1
            rw [add_plain] at hx6
            by_cases t5 : i = (an : Int)
            ·rw [if_pos t5] at H
             have t5b : (i == (an : Int)) = true := by simpa using t5
             have H' := Aside0.mk H
             clear H hl6 hC6 t5
             clear hxl
             replace t2 := eq_true t2
             replace t1 := eq_true t1
             go_wp2
             go_roundg k1
             case measure => have := HK1.out; omega
             case rel => exact ⟨x, _, (by first | rfl | (simp; done) | (simp [*]; done)), H', ⟨by have := HK1.out; omega⟩, HS, HB, HK, HX⟩
            ·rw [if_neg t5] at H
             by_cases t6 : 0 ≤ c
             ·rw [if_pos t6] at H
              by_cases t7 : c < ((rd_L2 x i).length : Int)
              ·rw [if_pos t7] at H
               replace H := Option.bind_eq_some_iff.mp H
               obtain ⟨y, ht, H⟩ := H
               have HT := Aside0.mk ht
               have H' := Aside0.mk H
               have t5b : (i == (an : Int)) = false := by simpa using t5
               obtain ⟨ad6, e1, hz2⟩ := Kd.at_int hC6 c p3 t7
               cases e1
               obtain ⟨ad, A5, c5, e1, hz1, hl5, _⟩ := at_L2 (Kd.S_reads' HS.out).2.2 (an : Int) r1 t4
               cases e1
               rw [add_plain, Int.toNat_natCast] at hz1
               have hz3 := HX.out
               obtain ⟨oki, hoki, hR6, hoth, hback⟩ := Mm.S_turn HS.out i.toNat (by omega) (fun k hk => by have := World.block_lt_of_cell? _ _ hz3; have h2 : w.heap.size < wr.heap.size := this; omega) hx6
               obtain ⟨A5', c5', e5, hl5', hC5⟩ := hoth an _ (by omega) (by omega) hz1
               injection e5 with e5a e5b e5c
               subst e5a; subst e5c
               have HR6 := Aside0.mk (show Kd.R (Kd.int .u8) 5 wr w0.heap.size oki (.slice (some ad6) (rd_L2 x i).length c6) (rd_L2 x i) from hR6)
               have HC5 := Aside0.mk (show ∀ W1, Kept wr W1 oki → Kd.C (Kd.int .u8) W1 A5 (rd_L2 x (an : Int)).length (rd_L2 x (an : Int)) from hC5)
               have HL5 := Aside0.mk hl5
               have HBK := Aside0.mk hback
               have HOK := Aside0.mk hoki
               have HXL := Aside0.mk hxl
               clear t5 hxl ht H hl6 hC6 hR6 hoth hback hC5 hl5 hl5' hoki e5b
               replace t2 := eq_true t2
               replace t1 := eq_true t1
               go_wp2
               refine start_ (n := 10) (S := fun w' => w'.cell? ⟨g, an, none⟩ = some (.slice A5 (rd_L2 x (an : Int)).length c5) ∧ w'.cell? (ad6.add c.toNat) = some (.int .u8 (rd (rd_L2 x i) c)) ∧ w'.cell? ⟨w.heap.size, 0, none⟩ = some (.int .i64 c)) (ds := [9]) #[false, false, false, false, false, false, false, false, false, false] (by kernel_rfl) rfl rfl ⟨hz1, hz2, hz3⟩ (fun hHeld => ?_)
               refine pure_ (i := 0) (N := some 61) (v := ?_) (a' := ?_) #[true, false, false, false, false, false, false, false, false, false] rfl rfl (by kernel_rfl) (fun _ _ _ h => h) (Or.inl ⟨by rfl, ?_⟩) ?_ ?_
               rotate_left
               ·intro w'
                go_simp
                with_reducible rfl
               rotate_left
               ·simp only [Act.put, List.setIfInBounds_toArray, List.set_cons_zero, List.set_cons_succ, i64_w, i32_w]
                rfl
               refine pure_ (i := 1) (N := some 62) (v := ?_) (a' := ?_) #[true, true, false, false, false, false, false, false, false, false] rfl rfl (by kernel_rfl) (fun _ _ _ h => h) (Or.inl ⟨by rfl, ?_⟩) ?_ ?_
               rotate_left
               ·intro w'
                go_simp
                with_reducible rfl
               rotate_left
               ·simp only [Act.put, List.setIfInBounds_toArray, List.set_cons_zero, List.set_cons_succ, i64_w, i32_w]
                rfl
               refine pure_ (i := 2) (N := some 63) (v := ?_) (a' := ?_) #[true, true, true, false, false, false, false, false, false, false] rfl rfl (by kernel_rfl) (fun _ _ _ h => h) (Or.inl ⟨by rfl, ?_⟩) ?_ ?_
               rotate_left
               ·intro w'
                go_simp
                with_reducible rfl
               rotate_left
               ·simp only [Act.put, List.setIfInBounds_toArray, List.set_cons_zero, List.set_cons_succ, i64_w, i32_w]
                rfl
               refine pure_ (i := 4) (N := some 65) (v := ?_) (a' := ?_) #[true, true, true, false, true, false, false, false, false, false] rfl rfl (by kernel_rfl) (fun _ _ _ h => h) (Or.inl ⟨by rfl, ?_⟩) ?_ ?_
               rotate_left
               ·intro w'
                go_simp
                with_reducible rfl
               rotate_left
               ·simp only [Act.put, List.setIfInBounds_toArray, List.set_cons_zero, List.set_cons_succ, i64_w, i32_w]
                rfl
               refine pure_ (i := 5) (N := some 66) (v := ?_) (a' := ?_) #[true, true, true, false, true, true, false, false, false, false] rfl rfl (by kernel_rfl) (fun _ _ _ h => h) (Or.inl ⟨by rfl, ?_⟩) ?_ ?_
               rotate_left
               ·intro w'
                go_simp
                with_reducible rfl
               rotate_left
               ·simp only [Act.put, List.setIfInBounds_toArray, List.set_cons_zero, List.set_cons_succ, i64_w, i32_w]
                rfl
               refine take_ (i := 3) (N := some 64) (v := ?_) (a' := ?_) #[true, true, true, true, true, true, false, false, false, false] rfl rfl (by kernel_rfl) (fun _ _ _ h => h) (Or.inl ⟨by rfl, ?_⟩) hHeld ?_ ?_
               rotate_left
               ·rintro w' ⟨s0, s1, s2⟩
                go_simp
                with_reducible rfl
               rotate_left
               ·simp only [Act.put, List.setIfInBounds_toArray, List.set_cons_zero, List.set_cons_succ, i64_w, i32_w]
                rfl
               refine take_ (i := 6) (N := some 67) (v := ?_) (a' := ?_) #[true, true, true, true, true, true, true, false, false, false] rfl rfl (by kernel_rfl) (fun _ _ _ h => h) (Or.inl ⟨by rfl, ?_⟩) hHeld ?_ ?_
               rotate_left
               ·rintro w' ⟨s0, s1, s2⟩
                go_simp
                with_reducible rfl
               rotate_left
               ·simp only [Act.put, List.setIfInBounds_toArray, List.set_cons_zero, List.set_cons_succ, i64_w, i32_w]
                rfl
               refine pure_ (i := 7) (N := some 68) (v := ?_) (a' := ?_) #[true, true, true, true, true, true, true, true, false, false] rfl rfl (by kernel_rfl) (fun _ _ _ h => h) (Or.inl ⟨by rfl, ?_⟩) ?_ ?_
               rotate_left
               ·intro w'
                go_simp
                with_reducible rfl
               rotate_left
               ·simp only [Act.put, List.setIfInBounds_toArray, List.set_cons_zero, List.set_cons_succ, i64_w, i32_w]
                rfl
               refine take_ (i := 8) (N := some 69) (v := ?_) (a' := ?_) #[true, true, true, true, true, true, true, true, true, false] rfl rfl (by kernel_rfl) (fun _ _ _ h => h) (Or.inl ⟨by rfl, ?_⟩) hHeld ?_ ?_
               rotate_left
               ·rintro w' ⟨s0, s1, s2⟩
                go_simp
                with_reducible rfl
               rotate_left
               ·simp only [Act.put, List.setIfInBounds_toArray, List.set_cons_zero, List.set_cons_succ, i64_w, i32_w]
                rfl
               refine last_ (i := 9) (N := some 70) #[true, true, true, true, true, true, true, true, true, true] rfl rfl (by kernel_rfl) (by decide) (fun K hK => ?_)
               refine goes_ Try.func57 (by kernel_rfl) rfl #[.slice A5 (rd_L2 x (an : Int)).length c5, .slice (some ad6) (rd_L2 x i).length c6, .int .u8 (rd (rd_L2 x i) c)] (by rfl) rfl rfl (by simp only [List.map_toArray, List.map_cons, List.map_nil]; rfl) ?_
               with_reducible refine (linear_take.calls k1 A5 c5 _ oki _ (rd_L2 x i) _ y w0 _ (below_drew1 HB.out) (fun W1 hk => HC5.out W1 (Kept.then_ (Kept.drew (Kept.refl wr oki)) hk (fun _ h => .inl h))) HL5.out (Kd.R_drew HR6.out) HT.out).mono ?_
               rintro e w9 ⟨rfl, ho9, hb9, hk9⟩
               refine ⟨_, rfl, ?_⟩
               have HO9 := Aside0.mk ho9
               have HB9 := Aside0.mk hb9
               have HK9 := Aside0.mk hk9
               clear ho9 hb9 hk9
               refine hK.out _ _ ?_
               clear hK K
               refine norm_ (a' := ?_) ?_ ?_
               rotate_left
               ·show Act.put _ (some 70) _ = _
                simp only [Act.put, List.setIfInBounds_toArray, List.set_cons_zero, List.set_cons_succ, i64_w, i32_w]
                rfl
               refine done_ (by kernel_rfl) ?_
               have HS9 := Aside0.mk (HBK.out _ y HK9.out HO9.out)
               have HKN := Aside0.mk (Kept.then_ HK.out (show Kept wr w9 oki from HK9.out) (fun k hk => by
                by_cases hkw : k < w.heap.size
                ·left
                 by_cases hp : w0.heap.size ≤ k ∧ MatBlk w k
                 ·exact hp
                 ·exfalso
                  obtain ⟨⟨_, hb1, _, q, hq, cells, hcell⟩, _⟩ := HOK.out k hk
                  have := HK.out.2 k hkw hp
                  refine hp ⟨hb1, q, ?_, cells, this.symm.trans hcell⟩
                  simp [Kd.int, Kd.scalar] at hq
                  exact hq
                ·right; omega))
               have HXN := Aside0.mk (show w9.cell? ⟨w.heap.size, 0, none⟩ = some (.int .i64 c) from by
                have hlt := World.block_lt_of_cell? _ _ hz3
                refine Eq.trans ?_ hz3
                exact World.cell?_of_block (HK9.out.2 _ hlt (fun hk => (HOK.out _ hk).1.1 rfl)))
               go_wp2
               go_roundg k1
               case measure => have := HK1.out; omega
               case rel => exact ⟨_, _, (by first | rfl | (simp; done) | (simp [*]; done)), H', ⟨by have := HK1.out; omega⟩, HS9, HB9, HKN, HXN⟩
              ·rw [if_neg t7] at H; exact absurd H (by simp)
             ·rw [if_neg t6] at H; exact absurd H (by simp)
           ·rw [if_pos r1, if_neg t4] at H; exact absurd H (by simp)
          ·rw [if_neg t3] at H; exact absurd H (by simp)
         ·rw [if_neg t2] at H; exact absurd H (by simp)
        ·rw [if_neg t1] at H
         have t1b : decide (i < (l.length : Int)) = false := decide_eq_false t1
         obtain rfl := Option.some.inj H
         clear H hxl
         go_wp2
         go_ret
         exact ⟨rfl, Kd.S_mono HS.out (fun _ _ => trivial), HB.out, HK.out⟩
    ·rw [if_neg p4] at h; exact absurd h (by simp)
   ·rw [if_neg p3] at h; exact absurd h (by simp)
  ·rw [if_neg p2] at h; exact absurd h (by simp)
 ·rw [if_neg p1] at h; exact absurd h (by simp)
theorem linear_pivot.mono_l : ∀ k, ∀ y0 y1 y2 y3 y4, LeO (linear_pivot.l0 k y0 y1 y2 y3 y4) (linear_pivot.l0 (k + 1) y0 y1 y2 y3 y4)
 | 0 => fun _ _ _ _ _ r h => by simp [linear_pivot.l0] at h
 | k + 1 => by
  have ih0 := linear_pivot.mono_l k
  intro y0 y1 y2 y3 y4
  unfold linear_pivot.l0
  repeat' first
   | (with_reducible exact ih0 _ _ _ _ _)
   | (with_reducible exact linear_take.mono _ _ _ _)
   | (with_reducible exact LeO.refl _)
   | (with_reducible exact LeO.none _)
   | (with_reducible refine LeO.ite ?_ ?_)
   | (with_reducible refine LeO.bind ?_ (fun _ => ?_))
theorem linear_pivot.mono : ∀ a0 a1 a2 k, LeO (linear_pivot.f k a0 a1 a2) (linear_pivot.f (k + 1) a0 a1 a2) := by
 intro a0 a1 a2 k
 unfold linear_pivot.f
 repeat' first
  | (with_reducible exact linear_pivot.mono_l _ _ _ _ _ _)
  | (with_reducible exact gf_Inv.mono _ _)
  | (with_reducible exact gf_Scale.mono _ _ _)
  | (with_reducible exact LeO.refl _)
  | (with_reducible exact LeO.none _)
  | (with_reducible refine LeO.ite ?_ ?_)
  | (with_reducible refine LeO.bind ?_ (fun _ => ?_))
attribute [local go_sem] max2_int min2_int max_two min_two
def linear_Reduce.l0 : Nat → Int → List (List Int) → List Int → Int → Int → Option (List (List Int) × List Int)
 | 0, _, _, _, _, _ => none
 | k + 1, n, x, ps, b, c => if c < b then (if (ps.length : Int) < n then ((linear_pivot.f k x (ps.length : Int) c).bind fun r => if r.2 = true then (if ps.length < 17592186044416 then (linear_Reduce.l0 k n r.1 (ps ++ [c]) b (wrap64 (c + 1))) else none) else (linear_Reduce.l0 k n r.1 ps b (wrap64 (c + 1)))) else (linear_Reduce.l0 k n x ps b (wrap64 (c + 1)))) else some (x, ps)
def linear_Reduce.f (k : Nat) (l0 : List (List Int)) (a1 : Int) : Option (List (List Int) × List Int) :=
 (linear_Right.f l0).bind fun t => if t = true then ((linear_clone.f k l0).bind fun x => (linear_width.f l0).bind fun wd => linear_Reduce.l0 k (l0.length : Int) x [] (mn (mx a1 0) wd) 0) else some ([], [])
theorem linear_pivot.kept {base B : Nat} {ok : Nat → Prop} {w1 w2 : World} {v : Value} {ps : List Int} (h : Kd.R (Kd.int .i64) 3 w1 base ok v ps) (hk : Kept w1 w2 (fun k => B ≤ k ∧ MatBlk w1 k)) : Kd.R (Kd.int .i64) 3 w2 base ok v ps := by
 refine Kd.R_mono (Kd.R_step (Kd.R_tight2 rfl h) (fun k hk1 hlt => hk.2 k hlt (fun hm => ?_))) (fun k hk => hk.2)
 obtain ⟨_, q, hq, cells, hc⟩ := hm
 obtain ⟨cells', hc'⟩ := Kd.R_typed h k hk1.1.symm
 rw [hc] at hc'
 rcases hq with rfl | rfl <;> simp at hc'
set_option maxHeartbeats 8000000 in
set_option maxRecDepth 100000 in
theorem linear_Reduce.calls (k : Nat) (A0 : Option Addr) (c0 : Nat) (l0 : List (List Int)) (a1 : Int) (r1 : List (List Int)) (r2 : List Int) (w : World) (hr0 : Kd.C (Kd.slice 5 (Kd.int .u8)) w A0 l0.length l0) (hc0 : l0.length ≤ c0) (h : linear_Reduce.f k l0 a1 = some (r1, r2)) :
 Calls Try.prog 33 #[.slice A0 l0.length c0, .int .i64 a1] w fun e w' => ∃ v0_ v1_ : Value, e = .returned (.tuple #[v0_, v1_]) ∧ Kd.S (Kd.slice 5 (Kd.int .u8)) 22 w' w.heap.size (fun _ => True) v0_ r1 ∧ Kd.R (Kd.int .i64) 3 w' w.heap.size (fun _ => True) v1_ r2 ∧ Below w.heap.size w w' := by
 have HR0 := Aside0.mk hr0
 have HC0 := Aside0.mk hc0
 clear hr0 hc0
 have HB := Aside0.mk (Below.refl w.heap.size w)
 unfold linear_Reduce.f at h
 replace h := Option.bind_eq_some_iff.mp h
 obtain ⟨t, ht, h⟩ := h
 have HT := Aside0.mk ht
 clear ht
 by_cases c1 : t = true
 ·rw [if_pos c1] at h
  subst c1
  replace h := Option.bind_eq_some_iff.mp h
  obtain ⟨x, hx, h⟩ := h
  replace h := Option.bind_eq_some_iff.mp h
  obtain ⟨wd, hwd, h⟩ := h
  have HX := Aside0.mk hx
  have HW := Aside0.mk hwd
  obtain ⟨m1, hm1⟩ : ∃ m, (if a1 < 0 then 0 else a1) = m := ⟨_, rfl⟩
  obtain ⟨b, hbb⟩ : ∃ b, (if wd < m1 then wd else m1) = b := ⟨_, rfl⟩
  rw [show mn (mx a1 0) wd = b from by unfold mx mn; rw [hm1, hbb]] at h
  have H' := Aside0.mk h
  clear hx hwd h
  go_enter Try.func33, Try.ntmps33
  go_wp2_with (first
   | (go_at_call 31; (with_reducible refine (linear_Right.calls _ _ l0 true _ ?side1 HC0.out HT.out).mono ?_); (case side1 => exact HR0.out); rintro e w1 ⟨rfl, hb⟩; have HB1 := Aside0.mk hb; clear hb)
   | (go_at_call 47; (with_reducible refine (linear_clone.calls k _ _ l0 x _ ?side1 HC0.out HX.out).mono ?_); (case side1 => exact Kd.C_below HR0.out HB1.out); rintro e w2 ⟨v0, rfl, ho, hb⟩; have HO2 := Aside0.mk ho; have HB2 := Aside0.mk hb; clear ho hb)
   | (go_at_call 32; (with_reducible refine (linear_width.calls _ _ l0 wd _ ?side1 HC0.out HW.out).mono ?_); (case side1 => exact Kd.C_below (Kd.C_below HR0.out HB1.out) HB2.out); rintro e w3 ⟨rfl, ⟨n3, rfl⟩⟩))
  go_loopg [5, 17] k (fun kq v5 v17 w' => ∃ (y : List (List Int)) (ps : List Int) (c : Int), v17 = .int .i64 c ∧ Aside0 (linear_Reduce.l0 kq (l0.length : Int) y ps b c = some (r1, r2)) ∧ Aside0 (kq ≤ k) ∧ Aside0 (Kd.S (Kd.slice 5 (Kd.int .u8)) 22 w' w.heap.size (fun _ => True) v0 y) ∧ Aside0 (Kd.R (Kd.int .i64) 3 w' w.heap.size (fun _ => True) v5 ps) ∧ Aside0 (Below w.heap.size w w'))
  case atStart => exact ⟨x, [], 0, rfl, H', ⟨Nat.le_refl _⟩, ⟨Kd.S_drewN (Kd.S_lower HO2.out HB1.out.size) n3⟩, ⟨Kd.R_nil _ _ _ _ _⟩, ⟨pw_below_drewN (below_step (below_step HB.out HB1.out) HB2.out) n3⟩⟩
  case round =>
   clear H' HB HB1 HB2 HO2 HX HW HT
   obtain ⟨y, ps, c, rfl, HA, HK1, HS, HO, HB⟩ := hrel
   cases gk with
   | zero => exact absurd HA.out (by simp [linear_Reduce.l0])
   | succ k1 =>
    have H := HA.out
    clear HA
    simp only [linear_Reduce.l0] at H
    obtain ⟨Ap, cp, ep⟩ := Kd.R_slice HO.out
    subst ep
    by_cases t1 : c < b
    ·rw [if_pos t1] at H
     have t1b : decide (c < b) = true := decide_eq_true t1
     clear t1
     by_cases t2 : (ps.length : Int) < (l0.length : Int)
     ·rw [if_pos t2] at H
      have t2b : decide ((ps.length : Int) < (l0.length : Int)) = true := decide_eq_true t2
      have t2c : decide (ps.length < l0.length) = true := decide_eq_true (by omega)
      clear t2
      replace H := Option.bind_eq_some_iff.mp H
      obtain ⟨⟨q1, q2⟩, hp, H⟩ := H
      have HP := Aside0.mk hp
      clear hp
      simp only at H
      cases q2 with
      | true =>
       rw [if_pos rfl] at H
       by_cases t3 : ps.length < 17592186044416
       ·rw [if_pos t3] at H
        have H' := Aside0.mk H
        have HL := Aside0.mk t3
        clear H t3
        go_wp2_with (first
         | (go_at_call 48; (with_reducible refine (linear_pivot.calls k1 v0 y (ps.length : Int) c q1 true w _ HB.out HS.out HP.out).mono ?_); rintro e w4 ⟨rfl, hs, hb, hk⟩; have HS4 := Aside0.mk hs; have HB4 := Aside0.mk hb; have HO4 := Aside0.mk (linear_pivot.kept HO.out hk); clear hs hb hk)
         | ((with_reducible refine gate_builtin (b := .append) (xs := #[.tmp 32, .tmp 34]) rfl ?_); at_builtin; refine Kd.R_append (Kd.int .i64) (w0 := w) w.heap.size rfl (.tmp 32) (.tmp 34) 32 3 (.int .i64 0) 8 rfl Try.underlying32 info3 rfl (by decide) (by omega) (.slice Ap ps.length cp) ps c [.int .i64 c] (fun _ => True) (fun _ => False) rfl rfl ?aP (fun _ hk => hk.elim) ?aF ?aO ?aB ?aS ?aL ?_; (case aP => exact rfl); (case aB => exact HB4.out); (case aF => exact (fun _ _ => trivial)); (case aO => exact HO4.out); (case aS => exact below_size HB4.out); (case aL => have := HL.out; omega); intro v5 w5 ho hb hg hat; have HS5 := Aside0.mk (Kd.S_over' HS4.out (Kd.R_typed HO4.out) (by decide) hg); have HB5 := Aside0.mk hb; have HO5 := Aside0.mk ho; clear ho hb hg hat))
        go_roundg k1
        case measure => have := HK1.out; omega
        case rel => exact ⟨q1, ps ++ [c], _, rfl, H', ⟨by have := HK1.out; omega⟩, HS5, HO5, HB5⟩
       ·rw [if_neg t3] at H; exact absurd H (by simp)
      | false =>
       rw [if_neg (by decide)] at H
       have H' := Aside0.mk H
       clear H
       go_wp2_with (first
        | (go_at_call 48; (with_reducible refine (linear_pivot.calls k1 v0 y (ps.length : Int) c q1 false w _ HB.out HS.out HP.out).mono ?_); rintro e w4 ⟨rfl, hs, hb, hk⟩; have HS4 := Aside0.mk hs; have HB4 := Aside0.mk hb; have HO4 := Aside0.mk (linear_pivot.kept HO.out hk); clear hs hb hk))
       go_roundg k1
       case measure => have := HK1.out; omega
       case rel => exact ⟨q1, ps, _, rfl, H', ⟨by have := HK1.out; omega⟩, HS4, HO4, HB4⟩
     ·rw [if_neg t2] at H
      have t2b : decide ((ps.length : Int) < (l0.length : Int)) = false := decide_eq_false t2
      have t2c : decide (ps.length < l0.length) = false := decide_eq_false (by omega)
      have H' := Aside0.mk H
      clear H t2
      go_wp2
      go_roundg k1
      case measure => have := HK1.out; omega
      case rel => exact ⟨y, ps, _, rfl, H', ⟨by have := HK1.out; omega⟩, HS, HO, HB⟩
    ·rw [if_neg t1] at H
     have t1b : decide (c < b) = false := decide_eq_false t1
     clear t1
     obtain ⟨rfl, rfl⟩ := Prod.mk.inj (Option.some.inj H)
     clear H
     go_wp2
     go_ret2
     exact ⟨_, _, rfl, HS.out, HO.out, HB.out⟩
 ·rw [if_neg c1] at h
  obtain ⟨rfl, rfl⟩ := Prod.mk.inj (Option.some.inj h)
  have hf : t = false := by simpa using c1
  subst hf
  go_enter Try.func33, Try.ntmps33
  go_wp2_with (first | (go_at_call 31; (with_reducible refine (linear_Right.calls _ _ l0 false _ ?side1 HC0.out HT.out).mono ?_); (case side1 => exact HR0.out); rintro e w1 ⟨rfl, hb⟩; have HB1 := Aside0.mk hb; clear hb))
  go_ret2
  exact ⟨_, _, rfl, ⟨fun _ => 0, Kd.R_nil _ _ _ _ _⟩, Kd.R_nil _ _ _ _ _, HB1.out⟩
theorem linear_Reduce.mono_l : ∀ k, ∀ y0 y1 y2 y3 y4, LeO (linear_Reduce.l0 k y0 y1 y2 y3 y4) (linear_Reduce.l0 (k + 1) y0 y1 y2 y3 y4)
 | 0 => fun _ _ _ _ _ r h => by simp [linear_Reduce.l0] at h
 | k + 1 => by
  have ih0 := linear_Reduce.mono_l k
  intro y0 y1 y2 y3 y4
  unfold linear_Reduce.l0
  repeat' first
   | (with_reducible exact ih0 _ _ _ _ _)
   | (with_reducible exact linear_pivot.mono _ _ _ _)
   | (with_reducible exact LeO.refl _)
   | (with_reducible exact LeO.none _)
   | (with_reducible refine LeO.ite ?_ ?_)
   | (with_reducible refine LeO.bind ?_ (fun _ => ?_))
theorem linear_Reduce.mono : ∀ a0 a1 k, LeO (linear_Reduce.f k a0 a1) (linear_Reduce.f (k + 1) a0 a1) := by
 intro a0 a1 k
 unfold linear_Reduce.f
 repeat' first
  | (with_reducible exact linear_Reduce.mono_l _ _ _ _ _ _)
  | (with_reducible exact linear_clone.mono _ _)
  | (with_reducible exact LeO.refl _)
  | (with_reducible exact LeO.none _)
  | (with_reducible refine LeO.ite ?_ ?_)
  | (with_reducible refine LeO.bind ?_ (fun _ => ?_))
end Go.Proofs.Ytndljfagojnidaa.P
namespace Go.Proofs.Ytndljfagojnidaa.P
open Go.RowKit Go.Proofs.YtndljfagojnidaaW.PrintWords Go.Proofs.YtndljfagojnidaaW.PrintLast Go.Proofs.YtndljfagojnidaaW.PrintMore
attribute [local go_sem] max2_int min2_int max_two min_two max_three min_three max_four min_four
set_option linter.unusedVariables false
set_option linter.unusedSimpArgs false
def linear_beside.l0 : Nat → List (List Int) → List Int → Int → Int → Option ((List (List Int)))
 | 0, _, _, _, _ => none
 | k + 1, x5, x10, x11, x12 => if x12 < x11 then (if 0 ≤ x12 then (if x12 < (x10.length : Int) then (if x12 < (x5.length : Int) then (if (rd_L2 x5 x12).length < 140737488355328 then (linear_beside.l0 k (x5.set (x12 : Int).toNat ((rd_L2 x5 x12) ++ [rd x10 x12])) x10 x11 (wrap64 (x12 + 1))) else (none)) else (none)) else (none)) else (none)) else (some x5)
def linear_beside.f (k : Nat) (l0 : List (List Int)) (l1 : List Int) : Option ((List (List Int))) := (linear_clone.f k l0).bind fun t127 => (linear_beside.l0 k t127 l1 (l1.length : Int) 0)
theorem linear_beside.mono_l : ∀ k, (∀ y0 y1 y2 y3, LeO (linear_beside.l0 k y0 y1 y2 y3) (linear_beside.l0 (k + 1) y0 y1 y2 y3))
 | 0 => fun _ _ _ _ r h => by simp [linear_beside.l0] at h
 | k + 1 => by
  have ih0 := linear_beside.mono_l k
  ·intro y0 y1 y2 y3
   unfold linear_beside.l0
   repeat' first
   | (with_reducible exact ih0 _ _ _ _)
   | (with_reducible exact linear_clone.mono _ _)
   | (with_reducible exact LeO.refl _)
   | (with_reducible exact LeO.none _)
   | (with_reducible refine LeO.ite ?_ ?_)
   | (with_reducible refine LeO.bind ?_ (fun _ => ?_))
   | exact ih0 _ _ _ _
   | exact linear_clone.mono _ _
   | exact LeO.none _
   | refine LeO.ite ?_ ?_
   | refine LeO.bind ?_ (fun _ => ?_)
theorem linear_beside.mono : ∀ a0 a1 k, LeO (linear_beside.f k a0 a1) (linear_beside.f (k + 1) a0 a1) := by
 intro a0 a1 k
 have ih0 := linear_beside.mono_l k
 unfold linear_beside.f
 repeat' first
  | (with_reducible exact ih0 _ _ _ _)
  | (with_reducible exact linear_clone.mono _ _)
  | (with_reducible exact LeO.refl _)
  | (with_reducible exact LeO.none _)
  | (with_reducible refine LeO.ite ?_ ?_)
  | (with_reducible refine LeO.bind ?_ (fun _ => ?_))
  | exact ih0 _ _ _ _
  | exact linear_clone.mono _ _
  | exact LeO.none _
  | refine LeO.ite ?_ ?_
  | refine LeO.bind ?_ (fun _ => ?_)
set_option maxHeartbeats 8000000 in
set_option maxRecDepth 100000 in
theorem linear_beside.calls (k : Nat) (A0 : Option Addr) (c0 : Nat) (l0 : List (List Int)) (A1 : Option Addr) (c1 : Nat) (l1 : List Int) (r : List (List Int)) (w : World) (hr0 : Kd.C (Kd.slice 5 (Kd.int .u8)) w A0 l0.length l0) (hc0 : l0.length ≤ c0) (hr1 : Kd.C (Kd.int .u8) w A1 l1.length l1) (hc1 : l1.length ≤ c1) (h : linear_beside.f k l0 l1 = some r) :
 Calls Try.prog 34 #[.slice A0 l0.length c0, .slice A1 l1.length c1] w fun e w' => ∃ v0_ : Value, e = .returned (v0_) ∧ Kd.S (Kd.slice 5 (Kd.int .u8)) 22 w' w.heap.size (fun _ => True) v0_ r ∧ Below w.heap.size w w' := by
 have HR0 := Aside0.mk hr0
 have HC0 := Aside0.mk hc0
 clear hr0 hc0
 have HR1 := Aside0.mk hr1
 have HC1 := Aside0.mk hc1
 clear hr1 hc1
 have HB := Aside0.mk (Below.refl w.heap.size w)
 have H : ((linear_clone.f k l0).bind fun t127 => (linear_beside.l0 k t127 l1 (l1.length : Int) 0)) = some r := h
 clear h
 replace H := Option.bind_eq_some_iff.mp H
 obtain ⟨t127, A30, H⟩ := H
 replace H : (linear_beside.l0 k t127 l1 (l1.length : Int) 0) = some r := H
 have A3 := Aside0.mk A30
 clear A30
 have H' := Aside0.mk H
 clear H
 go_enter Try.func34, Try.ntmps34
 go_wp2_with (first | ((with_reducible refine gate_callee (f := 47) rfl ?_); refine goesL_ (some 9) rfl rfl Try.func47 (by kernel_rfl) rfl #[.slice A0 l0.length c0] rfl (by (try simp only [List.map_toArray, List.map_cons, List.map_nil]); first | done | rfl | (simp only [List.length_drop, List.length_take]; rfl)) ?_; (with_reducible refine (linear_clone.calls k _ _ l0 t127 _ ?side1 ?side2 A3.out).mono ?_); (case side1 => repeat (first | exact HR0.out | (with_reducible refine Kd.C_alloc ?_ _) | (with_reducible refine Kd.C_drewN ?_ _) | (with_reducible refine Kd.C_drew ?_))); (case side2 => exact HC0.out); rintro e w4 ⟨v128, rfl, ho0, hb⟩; refine ⟨_, rfl, ?_⟩; have n0_ := Aside0.mk (Kd.S_lower ho0 (below_size (by repeat (first | (with_reducible first | exact HB.out | apply below_alloc | apply pw_below_drewN | apply below_drew1) | exact HB.out)))); have n1_ := Aside0.mk (below_step (by repeat (first | (with_reducible first | exact HB.out | apply below_alloc | apply pw_below_drewN | apply below_drew1) | exact HB.out)) hb); clear HB; have HO129 := n0_; have HB := n1_; clear n0_ n1_; (try clear hb); (try clear hb2); (try clear hk); (try clear hi); (try clear ho0)))
 go_loopg [12] k (fun kq v12 w' => ∃ (x5_1 : List (List Int)) (x12_1 : Int), v12 = .int .i64 x12_1 ∧ Aside0 (linear_beside.l0 kq x5_1 l1 (l1.length : Int) x12_1 = some r) ∧ Aside0 (kq ≤ k) ∧ Aside0 (Kd.S (Kd.slice 5 (Kd.int .u8)) 22 w' w.heap.size (fun _ => True) v128 x5_1) ∧ Aside0 (Below w.heap.size w w'))
 case atStart => exact ⟨(t127), (0), (by first | rfl | (simp; done) | (simp [*]; done)), H', ⟨Nat.le_refl _⟩, ⟨by (with_reducible repeat (first | apply Kd.S_alloc | apply Kd.S_drewN | apply Kd.S_drew)); exact HO129.out⟩, ⟨by repeat (first | (with_reducible first | exact HB.out | apply below_alloc | apply pw_below_drewN | apply below_drew1) | exact HB.out)⟩⟩
 case round =>
  clear H'
  try clear c1
  try clear p2
  try clear c3
  try clear c4
  obtain ⟨x5_1, x12_1, rfl, HA, HK1, HO_5, HB⟩ := hrel
  cases gk with
  | zero => exact absurd HA.out (by simp [linear_beside.l0])
  | succ k1 =>
   have H := HA.out
   clear HA
   simp only [linear_beside.l0] at H
   by_cases c5 : x12_1 < (l1.length : Int)
   ·rw [if_pos c5] at H
    have c5b0 : decide (x12_1 < (l1.length : Int)) = true := decide_eq_true c5
    clear c5
    by_cases c6 : 0 ≤ x12_1
    ·rw [if_pos c6] at H
     have c6b0 : decide (0 ≤ x12_1) = true := decide_eq_true c6
     clear c6
     by_cases c7 : x12_1 < (l1.length : Int)
     ·rw [if_pos c7] at H
      have c7b0 : decide (x12_1 < (l1.length : Int)) = true := decide_eq_true c7
      clear c7
      by_cases c8 : x12_1 < (x5_1.length : Int)
      ·rw [if_pos c8] at H
       have c8b0 : decide (x12_1 < (x5_1.length : Int)) = true := decide_eq_true c8
       clear c8
       by_cases c9 : (rd_L2 x5_1 x12_1).length < 140737488355328
       ·rw [if_pos c9] at H
        have LMc9 := Aside0.mk c9
        clear c9
        obtain ⟨y132, hy132⟩ : ∃ y_ : List Int, y_ = ((rd_L2 x5_1 x12_1) ++ [rd l1 x12_1]) := ⟨_, rfl⟩
        replace H : (linear_beside.l0 k1 (x5_1.set (x12_1 : Int).toNat y132) l1 (l1.length : Int) (wrap64 (x12_1 + 1))) = some r := by first | (rw [hy132]; with_reducible exact H) | (have H2_ := (Option.bind_some _ _).symm.trans H; rw [hy132]; with_reducible exact H2_) | (have H2_ := (Option.bind_some _ _).symm.trans H; with_reducible exact H2_) | with_reducible exact H | (rw [hy132]; exact H) | exact H
        have Ny132 := Aside0.mk hy132
        clear hy132
        obtain ⟨y135, hy135⟩ : ∃ y_ : List (List Int), y_ = (x5_1.set (x12_1 : Int).toNat y132) := ⟨_, rfl⟩
        replace H : (linear_beside.l0 k1 y135 l1 (l1.length : Int) (wrap64 (x12_1 + 1))) = some r := by first | (rw [hy135]; with_reducible exact H) | (have H2_ := (Option.bind_some _ _).symm.trans H; rw [hy135]; with_reducible exact H2_) | (have H2_ := (Option.bind_some _ _).symm.trans H; with_reducible exact H2_) | with_reducible exact H | (rw [hy135]; exact H) | exact H
        have Ny135 := Aside0.mk hy135
        clear hy135
        have H' := Aside0.mk H
        clear H
        have p130 : 0 ≤ (x12_1 : Int) := of_decide_eq_true (by first | (with_reducible assumption) | assumption)
        have q130 : x12_1 < (l1.length : Int) := of_decide_eq_true (by first | (with_reducible assumption) | assumption)
        obtain ⟨ad130, e130, hx130_0⟩ := Kd.at_int HR1.out x12_1 p130 q130
        cases e130
        replace hx130_0 := (HB.out.cell (World.block_lt_of_cell? w _ hx130_0)).trans hx130_0
        replace p130 := eq_true p130
        replace q130 := eq_true q130
        obtain ⟨Ao11, co11, eo11⟩ := Kd.S_slice HO_5.out
        subst eo11
        have p131 : 0 ≤ (x12_1 : Int) := of_decide_eq_true (by first | (with_reducible assumption) | assumption)
        have q131 : x12_1 < (x5_1.length : Int) := of_decide_eq_true (by first | (with_reducible assumption) | assumption)
        obtain ⟨ad131, A131_0, c131_0, e131, hx131_0, hl131_0, hi131_0⟩ := at_L2 (Kd.S_reads' HO_5.out).2.2 x12_1 p131 q131
        cases e131
        obtain ⟨ce131, hce131, hMe131, hcc131⟩ := Kd.S_get HO_5.out [] x12_1 p131 (by first | exact q131 | exact of_decide_eq_true (by first | (with_reducible assumption) | assumption) | (have e_ := (Kd.S_reads' HO_5.out).1; omega))
        obtain ⟨ve131_0, rfl, ge131_0⟩ := hMe131
        have hv131_0 := hcc131 0 _ rfl
        rw [Nat.add_zero, show ((Kd.slice 5 (Kd.int .u8))).sz = 1 from rfl, Nat.mul_one] at hv131_0
        replace hv131_0 := Option.some.inj (hv131_0.symm.trans hx131_0)
        rw [hv131_0] at ge131_0
        have HL131_0 := Aside0.mk (show Kd.R (Kd.int .u8) 5 _ _ _ _ (rd_L2 x5_1 x12_1) from ge131_0)
        clear hv131_0 ge131_0
        have HX131_0 := Aside0.mk hx131_0
        clear hcc131 hce131
        have HR131_0 := Aside0.mk hi131_0
        have HC131_0 := Aside0.mk hl131_0
        clear hi131_0 hl131_0
        replace p131 := eq_true p131
        replace q131 := eq_true q131
        obtain ⟨go12, co12, eo12, gb12, gl12, cl12, HG12⟩ := Kd.S_form HO_5.out (by have h_ : (x12_1 : Int) < ((x5_1.length : Int) : Int) := of_decide_eq_true (by first | (with_reducible assumption) | assumption); have h2_ : 0 ≤ (x12_1 : Int) := (of_decide_eq_true (by first | (with_reducible assumption) | assumption)); omega)
        (first | cases eo12 | (injection eo12 with ea_ en_ ec_; (first | subst ea_ | (injection ea_ with ea_; subst ea_)); subst ec_; clear en_))
        have GB12 := Aside0.mk gb12
        have GG12 := Aside0.mk HG12
        clear gb12 gl12 HG12
        (first | simp only [add_plain] at hx131_0 | skip)
        obtain ⟨oki12, ce12, hcl12, hM12, hcc12, _, _, hH12⟩ := Kd.S_elem HO_5.out [] (x12_1 : Int) (of_decide_eq_true (by first | (with_reducible assumption) | assumption)) (by have h_ : (x12_1 : Int) < ((x5_1.length : Int) : Int) := of_decide_eq_true (by first | (with_reducible assumption) | assumption); first | exact h_ | (have e_ := (Kd.S_reads' HO_5.out).1; omega) | simpa using h_)
        obtain ⟨ve12_0, rfl, ge12_0⟩ := hM12
        have hv12 := hcc12 0 _ rfl
        have hX12 := HX131_0.out
        (try simp only [add_plain] at hX12)
        (try simp only [Nat.add_zero] at hv12)
        (try rw [show ((Kd.slice 5 (Kd.int .u8))).sz = 1 from rfl, Nat.mul_one] at hv12)
        replace hv12 := Option.some.inj (hv12.symm.trans hX12)
        subst hv12
        clear hX12 hcc12 hcl12
        have UU12 := Aside0.mk (show Kd.R (Kd.int .u8) 5 _ w.heap.size oki12 (.slice A131_0 (rd_L2 x5_1 x12_1).length c131_0) (rd_L2 x5_1 x12_1) from ge12_0)
        have HH12 := Aside0.mk hH12
        have HN12 := Aside0.mk (Kd.S_reads' HO_5.out).1
        clear hH12 ge12_0
        go_wp2_with (first | ((with_reducible refine gate_builtin (b := .append) (xs := #[.tmp 22, .tmp 24]) rfl ?_); at_builtin; refine Kd.R_append (Kd.int .u8) (w0 := w) w.heap.size rfl (.tmp 22) (.tmp 24) 22 5 (.int .u8 0) 1 rfl Try.underlying22 info5 rfl (by decide) (by omega) (.slice A131_0 (rd_L2 x5_1 x12_1).length c131_0) (rd_L2 x5_1 x12_1) (rd l1 x12_1) [.int .u8 (rd l1 x12_1)] (fun k_ => oki12 k_ ∨ ((fun _ => True)) k_ ∧ wr.heap.size ≤ k_) (fun _ => False) rfl rfl ?aP (fun _ hk => hk.elim) ?aF ?aO ?aB ?aS ?aL ?_; (case aP => exact rfl); (case aB => exact (by repeat (first | (with_reducible first | exact HB.out | apply below_alloc | apply pw_below_drewN | apply below_drew1) | exact HB.out))); (case aF => exact (fun k_ hk => .inr ⟨trivial, hk⟩)); (case aO => exact (by (with_reducible repeat (first | apply Kd.R_alloc | apply Kd.R_drewN | apply Kd.R_drew)); exact Kd.R_mono UU12.out (fun _ hk => .inl hk))); (case aS => exact (below_size (by repeat (first | (with_reducible first | exact HB.out | apply below_alloc | apply pw_below_drewN | apply below_drew1) | exact HB.out)))); (case aL => have := LMc9.out; omega); intro v133 w13 ho hb hg hat; rw [← Ny132.out] at ho; have n0_ := Aside0.mk (hb); have n1_ := Aside0.mk (Kd.H_grown (Kd.H_widen (by repeat (first | exact HH12.out | refine Kd.H_alloc ?_ _ | refine Kd.H_drewN ?_ _ | refine Kd.H_drew ?_))) hg (fun k_ e_ => .inl (UU12.out.1 k_ e_))); have n2_ := Aside0.mk (ho); clear HB; clear HH12; clear HO_5; clear UU12; clear HL131_0; have HB := n0_; have HH12 := n1_; have HO134 := n2_; clear n0_ n1_ n2_; clear ho hb hg hat; have p10 : 0 ≤ (x12_1 : Int) := of_decide_eq_true (by first | (with_reducible assumption) | assumption); have q10 : (x12_1 : Int) < ((x5_1.length : Int) : Int) := of_decide_eq_true (by first | (with_reducible assumption) | assumption); replace p10 := eq_true p10; replace q10 := eq_true q10; obtain ⟨Ao16, co16, eo16⟩ := Kd.R_slice HO134.out; subst eo16; obtain ⟨_, _, hraw14, _, _, hcc14, _⟩ := Kd.H_raw HH12.out (of_decide_eq_true (by first | (with_reducible assumption) | assumption)) (by have h_ : (x12_1 : Int) < ((x5_1.length : Int) : Int) := of_decide_eq_true (by first | (with_reducible assumption) | assumption); first | exact h_ | (have e_ := (HN12.out); omega) | simpa using h_); obtain ⟨_, hfr14⟩ := Kd.H_at HH12.out (of_decide_eq_true (by first | (with_reducible assumption) | assumption)) (by have h_ : (x12_1 : Int) < ((x5_1.length : Int) : Int) := of_decide_eq_true (by first | (with_reducible assumption) | assumption); first | exact h_ | (have e_ := (HN12.out); omega) | simpa using h_); have hx14_0 := hcc14 0 _ rfl; have hf14_0 := hfr14 0; (try simp only [Nat.add_zero] at hx14_0 hf14_0); (try rw [show ((Kd.slice 5 (Kd.int .u8))).sz = 1 from rfl, Nat.mul_one] at hx14_0); (try rw [show ((Kd.slice 5 (Kd.int .u8))).sz = 1 from rfl, Nat.mul_one] at hf14_0); have HP14 := Kd.S_seg0 HH12.out (of_decide_eq_true (by first | (with_reducible assumption) | assumption)) (by have h_ : (x12_1 : Int) < ((x5_1.length : Int) : Int) := of_decide_eq_true (by first | (with_reducible assumption) | assumption); first | exact h_ | (have e_ := (HN12.out); omega) | simpa using h_) (seg := [.slice Ao16 y132.length co16]) (j := 0) (show 1 ≤ 1 from by decide) (x' := y132) (Kd.M_row HO134.out) (fun _ hk => hk); (try simp only [show ((Kd.slice 5 (Kd.int .u8))).sz = 1 from rfl, Nat.mul_one, Nat.add_zero] at HP14); clear hcc14 hfr14) | ((with_reducible refine gate_store (t := 22) (p := 26) rfl ?_); refine store_event (t := 22) (p := 26) (v := ?vo_w15) (w1 := (w13.setCell ⟨go12, (x12_1 : Int).toNat, none⟩ (.slice Ao16 y132.length co16))) ?hg ?ho ?hn ?hr ?_; (case ho => rfl); (case hg => rfl); (case hn => rfl); (case hr => first | (go_simp; done) | (go_simp; rfl)); intro w15 hw; have hg : w13.grownBy w15 (some go12) := (by rw [hw]; exact HP14.2); have hp_ : Kd.S (Kd.slice 5 (Kd.int .u8)) 22 w15 w.heap.size (fun _ => True) (.slice (some ⟨go12, 0, none⟩) x5_1.length co11) y135 := (by rw [hw, Ny135.out]; exact HP14.1); clear HP14; have n0_ := Aside0.mk ((by rw [hw]; exact below_set HB.out GB12.out : Below w.heap.size w w15)); have n1_ := Aside0.mk (hp_); clear HB; clear HO134; clear HH12; have HB := n0_; have HO_5 := n1_; clear n0_ n1_; clear hg hw hp_ hraw14))
        go_roundg k1
        case measure => have := HK1.out; omega
        case rel => exact ⟨(y135), (wrap64 (x12_1 + 1)), (by first | rfl | (simp; done) | (simp [*]; done)), H', ⟨by have := HK1.out; omega⟩, ⟨by (with_reducible repeat (first | apply Kd.S_alloc | apply Kd.S_drewN | apply Kd.S_drew)); exact HO_5.out⟩, ⟨by repeat (first | (with_reducible first | exact HB.out | apply below_alloc | apply pw_below_drewN | apply below_drew1) | exact HB.out)⟩⟩
       ·rw [if_neg c9] at H
        exact absurd H (by simp)
      ·rw [if_neg c8] at H
       exact absurd H (by simp)
     ·rw [if_neg c7] at H
      exact absurd H (by simp)
    ·rw [if_neg c6] at H
     exact absurd H (by simp)
   ·rw [if_neg c5] at H
    have c5b0 : decide (x12_1 < (l1.length : Int)) = false := decide_eq_false c5
    clear c5
    obtain rfl := Option.some.inj H
    go_wp2
    go_ret
    exact ⟨_, by first | rfl | (simp [errW_none, errW_some] <;> rfl) | (simp [*, errW_none, errW_some] <;> rfl), by (with_reducible repeat (first | apply Kd.S_alloc | apply Kd.S_drewN | apply Kd.S_drew)); exact HO_5.out, by repeat (first | (with_reducible first | exact HB.out | apply below_alloc | apply pw_below_drewN | apply below_drew1) | exact HB.out)⟩
mutual
def linear_Solve.j0 : Nat → List (List Int) → List Int → Bool → Option (List Int × Bool)
 | 0, _, _, _ => none
 | k + 1, x0, x1, x21 => if x21 = true then (some (([] : List Int), false)) else ((linear_width.f x0).bind fun t137 => ((linear_beside.f k x0 x1).bind fun t138 => ((linear_Reduce.f k t138 t137).bind fun bt141 => (if 0 ≤ t137 then (if (t137 : Int).toNat ≤ 281474976710656 then (linear_Solve.l0 k t137 bt141.2 (List.replicate (t137 : Int).toNat 0) bt141.1 (bt141.1.length : Int) 0) else (none)) else (none)))))
def linear_Solve.l0 : Nat → Int → List Int → List Int → List (List Int) → Int → Int → Option (List Int × Bool)
 | 0, _, _, _, _, _, _ => none
 | k + 1, x6, x8, x9, x34, x35, x36 => if x36 < x35 then (if 0 ≤ x36 then (if x36 < (x34.length : Int) then (if x36 < (x8.length : Int) then (if 0 ≤ x6 then (if x6 < ((rd_L2 x34 x36).length : Int) then (if 0 ≤ (rd x8 x36) then (if (rd x8 x36) < (x9.length : Int) then (linear_Solve.l0 k x6 x8 (x9.set ((rd x8 x36) : Int).toNat (rd (rd_L2 x34 x36) x6)) x34 x35 (wrap64 (x36 + 1))) else (none)) else (none)) else (none)) else (none)) else (if 0 ≤ x6 then (if x6 < ((rd_L2 x34 x36).length : Int) then (if (rd (rd_L2 x34 x36) x6) = 0 then (linear_Solve.l0 k x6 x8 x9 x34 x35 (wrap64 (x36 + 1))) else (some (([] : List Int), false))) else (none)) else (none))) else (none)) else (none)) else (some (x9, true))
end
def linear_Solve.f (k : Nat) (l0 : List (List Int)) (l1 : List Int) : Option (List Int × Bool) := (linear_Right.f l0).bind fun t136 => (if t136 = true then (linear_Solve.j0 k l0 l1 ((l0.length : Int) != (l1.length : Int))) else (linear_Solve.j0 k l0 l1 true))
theorem linear_Solve.mono_l : ∀ k, (∀ y0 y1 y2, LeO (linear_Solve.j0 k y0 y1 y2) (linear_Solve.j0 (k + 1) y0 y1 y2)) ∧ (∀ y0 y1 y2 y3 y4 y5, LeO (linear_Solve.l0 k y0 y1 y2 y3 y4 y5) (linear_Solve.l0 (k + 1) y0 y1 y2 y3 y4 y5))
 | 0 => ⟨fun _ _ _ r h => by simp [linear_Solve.j0] at h, fun _ _ _ _ _ _ r h => by simp [linear_Solve.l0] at h⟩
 | k + 1 => by
  obtain ⟨ih0, ih1⟩ := linear_Solve.mono_l k
  refine ⟨?_, ?_⟩
  ·intro y0 y1 y2
   unfold linear_Solve.j0
   repeat' first
   | (with_reducible exact ih0 _ _ _)
   | (with_reducible exact ih1 _ _ _ _ _ _)
   | (with_reducible exact linear_Reduce.mono _ _ _)
   | (with_reducible exact linear_beside.mono _ _ _)
   | (with_reducible exact LeO.refl _)
   | (with_reducible exact LeO.none _)
   | (with_reducible refine LeO.ite ?_ ?_)
   | (with_reducible refine LeO.bind ?_ (fun _ => ?_))
   | exact ih0 _ _ _
   | exact ih1 _ _ _ _ _ _
   | exact linear_Reduce.mono _ _ _
   | exact linear_beside.mono _ _ _
   | exact LeO.none _
   | refine LeO.ite ?_ ?_
   | refine LeO.bind ?_ (fun _ => ?_)
  ·intro y0 y1 y2 y3 y4 y5
   unfold linear_Solve.l0
   repeat' first
   | (with_reducible exact ih0 _ _ _)
   | (with_reducible exact ih1 _ _ _ _ _ _)
   | (with_reducible exact linear_Reduce.mono _ _ _)
   | (with_reducible exact linear_beside.mono _ _ _)
   | (with_reducible exact LeO.refl _)
   | (with_reducible exact LeO.none _)
   | (with_reducible refine LeO.ite ?_ ?_)
   | (with_reducible refine LeO.bind ?_ (fun _ => ?_))
   | exact ih0 _ _ _
   | exact ih1 _ _ _ _ _ _
   | exact linear_Reduce.mono _ _ _
   | exact linear_beside.mono _ _ _
   | exact LeO.none _
   | refine LeO.ite ?_ ?_
   | refine LeO.bind ?_ (fun _ => ?_)
theorem linear_Solve.mono : ∀ a0 a1 k, LeO (linear_Solve.f k a0 a1) (linear_Solve.f (k + 1) a0 a1) := by
 intro a0 a1 k
 obtain ⟨ih0, ih1⟩ := linear_Solve.mono_l k
 unfold linear_Solve.f
 repeat' first
  | (with_reducible exact ih0 _ _ _)
  | (with_reducible exact ih1 _ _ _ _ _ _)
  | (with_reducible exact linear_Reduce.mono _ _ _)
  | (with_reducible exact linear_beside.mono _ _ _)
  | (with_reducible exact LeO.refl _)
  | (with_reducible exact LeO.none _)
  | (with_reducible refine LeO.ite ?_ ?_)
  | (with_reducible refine LeO.bind ?_ (fun _ => ?_))
  | exact ih0 _ _ _
  | exact ih1 _ _ _ _ _ _
  | exact linear_Reduce.mono _ _ _
  | exact linear_beside.mono _ _ _
  | exact LeO.none _
  | refine LeO.ite ?_ ?_
  | refine LeO.bind ?_ (fun _ => ?_)
def linear_Solve.T10 : Bool × List (List Nat × List Nat) := (true, [([], []), ([], []), ([], []), ([1, 2], [1, 2]), ([3], [3]), ([], []), ([], []), ([5, 6], [5, 6]), ([7], [7]), ([0, 4, 0, 1, 2, 3, 4, 5, 6, 7, 8], [0, 4]), ([9, 8, 0, 1, 2, 3, 4, 5, 6, 7, 8], [8, 9])])
def linear_Solve.B10 : List Nat := [0, 0, 0, 6, 14, 0, 0, 96, 224, 511, 1023]
theorem linear_Solve.tab10 : rtab .any (opsOf Try.f24 10) = linear_Solve.T10 := by kernel_rfl
theorem linear_Solve.bits10 : waitsOk linear_Solve.T10.2 linear_Solve.B10 = true := by kernel_rfl
set_option maxHeartbeats 8000000 in
set_option maxRecDepth 100000 in
theorem linear_Solve.calls (k : Nat) (A0 : Option Addr) (c0 : Nat) (l0 : List (List Int)) (A1 : Option Addr) (c1 : Nat) (l1 : List Int) (r1 : List Int) (r2 : Bool) (w : World) (hr0 : Kd.C (Kd.slice 5 (Kd.int .u8)) w A0 l0.length l0) (hc0 : l0.length ≤ c0) (hr1 : Kd.C (Kd.int .u8) w A1 l1.length l1) (hc1 : l1.length ≤ c1) (h : linear_Solve.f k l0 l1 = some (r1, r2)) :
 Calls Try.prog 24 #[.slice A0 l0.length c0, .slice A1 l1.length c1] w fun e w' => ∃ v0_ : Value, e = .returned (.tuple #[v0_, .bool r2]) ∧ Kd.R (Kd.int .u8) 5 w' w.heap.size (fun _ => True) v0_ r1 ∧ Below w.heap.size w w' := by
 have HR0 := Aside0.mk hr0
 have HC0 := Aside0.mk hc0
 clear hr0 hc0
 have HR1 := Aside0.mk hr1
 have HC1 := Aside0.mk hc1
 clear hr1 hc1
 have HB := Aside0.mk (Below.refl w.heap.size w)
 have H : ((linear_Right.f l0).bind fun t136 => (if t136 = true then (linear_Solve.j0 k l0 l1 ((l0.length : Int) != (l1.length : Int))) else (linear_Solve.j0 k l0 l1 true))) = some (r1, r2) := h
 clear h
 have HC3 := Aside0.mk H
 clear H
 go_enter Try.func24, Try.ntmps24
 go_upto_region 1 with (fail)
 go_cut [21] (fun v21 wc => ∃ (kq : Nat) (x21_2 : Bool), v21 = .bool x21_2 ∧ Aside0 (linear_Solve.j0 kq l0 l1 x21_2 = some (r1, r2)) ∧ Aside0 (kq ≤ k) ∧ Aside0 (Below w.heap.size w wc))
 case first =>
  have H := HC3.out
  clear HC3
  replace H := Option.bind_eq_some_iff.mp H
  obtain ⟨t136, A40, H⟩ := H
  replace H : (if t136 = true then (linear_Solve.j0 k l0 l1 ((l0.length : Int) != (l1.length : Int))) else (linear_Solve.j0 k l0 l1 true)) = some (r1, r2) := H
  have A4 := Aside0.mk A40
  clear A40
  by_cases c5 : t136 = true
  ·subst c5
   have H1 : (linear_Solve.j0 k l0 l1 ((l0.length : Int) != (l1.length : Int))) = some (r1, r2) := by rw [if_pos rfl] at H; exact H
   clear H
   have H := H1
   clear H1
   have H' := Aside0.mk H
   clear H
   go_wp2_with (first | ((with_reducible refine gate_callee (f := 31) rfl ?_); refine goesL_ (some 13) rfl rfl Try.func31 (by kernel_rfl) rfl #[.slice A0 l0.length c0] rfl (by (try simp only [List.map_toArray, List.map_cons, List.map_nil]); first | done | rfl | (simp only [List.length_drop, List.length_take]; rfl)) ?_; (with_reducible refine (linear_Right.calls _ _ l0 true _ ?side1 ?side2 A4.out).mono ?_); (case side1 => repeat (first | exact (Kd.C_below HR0.out HB.out) | (with_reducible refine Kd.C_alloc ?_ _) | (with_reducible refine Kd.C_drewN ?_ _) | (with_reducible refine Kd.C_drew ?_))); (case side2 => exact HC0.out); rintro e w6 ⟨rfl, hb⟩; refine ⟨_, rfl, ?_⟩; have n0_ := Aside0.mk (below_step (by repeat (first | (with_reducible first | exact HB.out | apply below_alloc | apply pw_below_drewN | apply below_drew1) | exact HB.out)) hb); clear HB; have HB := n0_; clear n0_; (try clear hb); (try clear hb2); (try clear hk); (try clear hi)))
   go_meet
   case rel => exact ⟨_, (((l0.length : Int) != (l1.length : Int))), (by first | rfl | (simp; done) | (simp [*]; done)), H', ⟨by first | omega | exact Nat.le_refl _⟩, ⟨by repeat (first | (with_reducible first | exact HB.out | apply below_alloc | apply pw_below_drewN | apply below_drew1) | exact HB.out)⟩⟩
  ·replace c5 := Bool.eq_false_iff.mpr c5
   subst c5
   have H1 : (linear_Solve.j0 k l0 l1 true) = some (r1, r2) := by rw [if_neg (show ¬ (false = true) by decide)] at H; exact H
   clear H
   have H := H1
   clear H1
   have H' := Aside0.mk H
   clear H
   go_wp2_with (first | ((with_reducible refine gate_callee (f := 31) rfl ?_); refine goesL_ (some 13) rfl rfl Try.func31 (by kernel_rfl) rfl #[.slice A0 l0.length c0] rfl (by (try simp only [List.map_toArray, List.map_cons, List.map_nil]); first | done | rfl | (simp only [List.length_drop, List.length_take]; rfl)) ?_; (with_reducible refine (linear_Right.calls _ _ l0 false _ ?side1 ?side2 A4.out).mono ?_); (case side1 => repeat (first | exact (Kd.C_below HR0.out HB.out) | (with_reducible refine Kd.C_alloc ?_ _) | (with_reducible refine Kd.C_drewN ?_ _) | (with_reducible refine Kd.C_drew ?_))); (case side2 => exact HC0.out); rintro e w7 ⟨rfl, hb⟩; refine ⟨_, rfl, ?_⟩; have n0_ := Aside0.mk (below_step (by repeat (first | (with_reducible first | exact HB.out | apply below_alloc | apply pw_below_drewN | apply below_drew1) | exact HB.out)) hb); clear HB; have HB := n0_; clear n0_; (try clear hb); (try clear hb2); (try clear hk); (try clear hi)))
   go_meet
   case rel => exact ⟨_, (true), (by first | rfl | (simp; done) | (simp [*]; done)), H', ⟨by first | omega | exact Nat.le_refl _⟩, ⟨by repeat (first | (with_reducible first | exact HB.out | apply below_alloc | apply pw_below_drewN | apply below_drew1) | exact HB.out)⟩⟩
 case rest =>
  clear HC3
  try clear c1
  try clear c2
  try clear p2
  try clear c3
  try clear c5
  obtain ⟨kq, x21_2, rfl, HA, HJ2, HB⟩ := hcut
  cases kq with
  | zero => exact absurd HA.out (by simp [linear_Solve.j0])
  | succ kj2 =>
   have H := HA.out
   clear HA
   simp only [linear_Solve.j0] at H
   by_cases c8 : x21_2 = true
   ·subst c8
    have H1 : (some (([] : List Int), false)) = some (r1, r2) := by rw [if_pos rfl] at H; exact H
    clear H
    have H := H1
    clear H1
    simp only [Option.some.injEq, Prod.mk.injEq] at H
    obtain ⟨rfl, rfl⟩ := H
    go_wp2
    go_ret2
    exact ⟨_, by first | rfl | (simp [errW_none, errW_some] <;> rfl) | (simp [*, errW_none, errW_some] <;> rfl), by first | exact Kd.R_nil _ _ _ _ _ | exact Kd.N_nil _ _ _ _ _ | exact Kd.V_nil _ _ _ _ _ | exact Kd.Q_nil _ _ _ _ _ | exact Kd.S_nil _ _ _ _ _, by repeat (first | (with_reducible first | exact HB.out | apply below_alloc | apply pw_below_drewN | apply below_drew1) | exact HB.out)⟩
   ·replace c8 := Bool.eq_false_iff.mpr c8
    subst c8
    have H1 : ((linear_width.f l0).bind fun t137 => ((linear_beside.f kj2 l0 l1).bind fun t138 => ((linear_Reduce.f kj2 t138 t137).bind fun bt141 => (if 0 ≤ t137 then (if (t137 : Int).toNat ≤ 281474976710656 then (linear_Solve.l0 kj2 t137 bt141.2 (List.replicate (t137 : Int).toNat 0) bt141.1 (bt141.1.length : Int) 0) else (none)) else (none))))) = some (r1, r2) := by rw [if_neg (show ¬ (false = true) by decide)] at H; exact H
    clear H
    have H := H1
    clear H1
    replace H := Option.bind_eq_some_iff.mp H
    obtain ⟨t137, A90, H⟩ := H
    replace H : ((linear_beside.f kj2 l0 l1).bind fun t138 => ((linear_Reduce.f kj2 t138 t137).bind fun bt141 => (if 0 ≤ t137 then (if (t137 : Int).toNat ≤ 281474976710656 then (linear_Solve.l0 kj2 t137 bt141.2 (List.replicate (t137 : Int).toNat 0) bt141.1 (bt141.1.length : Int) 0) else (none)) else (none)))) = some (r1, r2) := H
    have A9 := Aside0.mk A90
    clear A90
    replace H := Option.bind_eq_some_iff.mp H
    obtain ⟨t138, A100, H⟩ := H
    replace H : ((linear_Reduce.f kj2 t138 t137).bind fun bt141 => (if 0 ≤ t137 then (if (t137 : Int).toNat ≤ 281474976710656 then (linear_Solve.l0 kj2 t137 bt141.2 (List.replicate (t137 : Int).toNat 0) bt141.1 (bt141.1.length : Int) 0) else (none)) else (none))) = some (r1, r2) := H
    have A10 := Aside0.mk A100
    clear A100
    replace H := Option.bind_eq_some_iff.mp H
    obtain ⟨⟨t141, t142⟩, A110, H⟩ := H
    replace H : (if 0 ≤ t137 then (if (t137 : Int).toNat ≤ 281474976710656 then (linear_Solve.l0 kj2 t137 t142 (List.replicate (t137 : Int).toNat 0) t141 (t141.length : Int) 0) else (none)) else (none)) = some (r1, r2) := H
    have A11 := Aside0.mk A110
    clear A110
    by_cases c12 : 0 ≤ t137
    ·rw [if_pos c12] at H
     have c12b0 := eq_true c12
     have c12b1 : decide (0 ≤ t137) = true := decide_eq_true c12
     clear c12
     by_cases c13 : (t137 : Int).toNat ≤ 281474976710656
     ·rw [if_pos c13] at H
      have c13b0 := eq_true c13
      have c13b1 : decide ((t137 : Int).toNat ≤ 281474976710656) = true := decide_eq_true c13
      clear c13
      obtain ⟨y147, hy147⟩ : ∃ y_ : List Int, y_ = (List.replicate (t137 : Int).toNat 0) := ⟨_, rfl⟩
      replace H : (linear_Solve.l0 kj2 t137 t142 y147 t141 (t141.length : Int) 0) = some (r1, r2) := by first | (rw [hy147]; with_reducible exact H) | (have H2_ := (Option.bind_some _ _).symm.trans H; rw [hy147]; with_reducible exact H2_) | (have H2_ := (Option.bind_some _ _).symm.trans H; with_reducible exact H2_) | with_reducible exact H | (rw [hy147]; exact H) | exact H
      have Ny147 := Aside0.mk hy147
      clear hy147
      have H' := Aside0.mk H
      clear H
      go_wp2_with (first | ((with_reducible refine gate_callee (f := 32) rfl ?_); refine goesL_ (some 23) rfl rfl Try.func32 (by kernel_rfl) rfl #[.slice A0 l0.length c0] rfl (by (try simp only [List.map_toArray, List.map_cons, List.map_nil]); first | done | rfl | (simp only [List.length_drop, List.length_take]; rfl)) ?_; (with_reducible refine (linear_width.calls _ _ l0 t137 _ ?side1 ?side2 A9.out).mono ?_); (case side1 => repeat (first | exact (Kd.C_below HR0.out HB.out) | (with_reducible refine Kd.C_alloc ?_ _) | (with_reducible refine Kd.C_drewN ?_ _) | (with_reducible refine Kd.C_drew ?_))); (case side2 => exact HC0.out); rintro e w' ⟨rfl, ⟨nd, rfl⟩⟩; refine ⟨_, rfl, ?_⟩) | ((with_reducible refine gate_callee (f := 34) rfl ?_); refine goesL_ (some 27) rfl rfl Try.func34 (by kernel_rfl) rfl #[.slice A0 l0.length c0, .slice A1 l1.length c1] rfl (by (try simp only [List.map_toArray, List.map_cons, List.map_nil]); first | done | rfl | (simp only [List.length_drop, List.length_take]; rfl)) ?_; (with_reducible refine (linear_beside.calls kj2 _ _ l0 _ _ l1 t138 _ ?side1 ?side2 ?side3 ?side4 A10.out).mono ?_); (case side1 => repeat (first | exact (Kd.C_below HR0.out (by repeat (first | (with_reducible first | exact HB.out | apply below_alloc | apply pw_below_drewN | apply below_drew1) | exact HB.out))) | (with_reducible refine Kd.C_alloc ?_ _) | (with_reducible refine Kd.C_drewN ?_ _) | (with_reducible refine Kd.C_drew ?_))); (case side2 => exact HC0.out); (case side3 => repeat (first | exact (Kd.C_below HR1.out (by repeat (first | (with_reducible first | exact HB.out | apply below_alloc | apply pw_below_drewN | apply below_drew1) | exact HB.out))) | (with_reducible refine Kd.C_alloc ?_ _) | (with_reducible refine Kd.C_drewN ?_ _) | (with_reducible refine Kd.C_drew ?_))); (case side4 => exact HC1.out); rintro e w14 ⟨v139, rfl, ho0, hb⟩; refine ⟨_, rfl, ?_⟩; have n0_ := Aside0.mk (Kd.S_lower ho0 (below_size (by repeat (first | (with_reducible first | exact HB.out | apply below_alloc | apply pw_below_drewN | apply below_drew1) | exact HB.out)))); have n1_ := Aside0.mk (below_step (by repeat (first | (with_reducible first | exact HB.out | apply below_alloc | apply pw_below_drewN | apply below_drew1) | exact HB.out)) hb); clear HB; have HO140 := n0_; have HB := n1_; clear n0_ n1_; (try clear hb); (try clear hb2); (try clear hk); (try clear hi); (try clear ho0); obtain ⟨Ao15, co15, eo15⟩ := Kd.S_slice HO140.out; subst eo15) | ((with_reducible refine gate_callee (f := 33) rfl ?_); refine goesL_ (some 29) rfl rfl Try.func33 (by kernel_rfl) rfl #[.slice Ao15 t138.length co15, .int .i64 t137] rfl (by (try simp only [List.map_toArray, List.map_cons, List.map_nil]); first | done | rfl | (simp only [List.length_drop, List.length_take]; rfl)) ?_; (with_reducible refine (linear_Reduce.calls kj2 _ _ t138 t137 t141 t142 _ ?side1 ?side2 A11.out).mono ?_); (case side1 => repeat (first | exact (Kd.S_reads' HO140.out).2.2 | (with_reducible refine Kd.C_alloc ?_ _) | (with_reducible refine Kd.C_drewN ?_ _) | (with_reducible refine Kd.C_drew ?_))); (case side2 => exact (Kd.S_reads' HO140.out).2.1); rintro e w16 ⟨v143, v145, rfl, ho0, ho1, hb⟩; refine ⟨_, rfl, ?_⟩; have n0_ := Aside0.mk (Kd.S_elder' (by (with_reducible repeat (first | apply Kd.S_alloc | apply Kd.S_drewN | apply Kd.S_drew)); exact HO140.out) (Kd.S_base ho0) hb); have n1_ := Aside0.mk (Kd.S_lower (Kd.S_new' ho0 (Kd.S_lt (by (with_reducible repeat (first | apply Kd.S_alloc | apply Kd.S_drewN | apply Kd.S_drew)); exact HO140.out))) (below_size (by repeat (first | (with_reducible first | exact HB.out | apply below_alloc | apply pw_below_drewN | apply below_drew1) | exact HB.out)))); have n2_ := Aside0.mk (Kd.R_lower ho1 (below_size (by repeat (first | (with_reducible first | exact HB.out | apply below_alloc | apply pw_below_drewN | apply below_drew1) | exact HB.out)))); have n3_ := Aside0.mk (below_step (by repeat (first | (with_reducible first | exact HB.out | apply below_alloc | apply pw_below_drewN | apply below_drew1) | exact HB.out)) hb); clear HO140; clear HB; have HO140 := n0_; have HO144 := n1_; have HO146 := n2_; have HB := n3_; clear n0_ n1_ n2_ n3_; (try clear hb); (try clear hb2); (try clear hk); (try clear hi); (try clear ho0); (try clear ho1)) | ((with_reducible refine gate_dst (N := 33) rfl ?_); (try (refine gate_guard (by rfl) ?_; dsimp only)); refine Kd.R_make (Kd.int .u8) _ 5 rfl (N := 33) rfl 22 _ _ rfl t137 rfl rfl Try.underlying22 (.int .u8 0) 1 info5 rfl (by decide) (by omega) 0 (ok := fun _ => True) (okp := fun _ => True) rfl (fun _ hk => hk) trivial (of_decide_eq_true (by first | (with_reducible assumption) | assumption)) (Nat.le_trans (Nat.mul_le_mul_right _ (of_decide_eq_true (by first | (with_reducible assumption) | assumption) : t137.toNat ≤ 281474976710656)) (by omega)) (Below.refl _ _) (Nat.le_refl _) ?_; intro v148 w17 ho18 hb hg_ hnew_; clear hg_ hnew_; (first | rw [← Ny147.out] at ho18 | (simp only [Int.reduceToNat] at ho18; rw [← Ny147.out] at ho18)); have n0_ := Aside0.mk (Kd.S_elder' (by (with_reducible repeat (first | apply Kd.S_alloc | apply Kd.S_drewN | apply Kd.S_drew)); exact HO140.out) (Kd.R_base ho18) hb); have n1_ := Aside0.mk (Kd.S_elder' (by (with_reducible repeat (first | apply Kd.S_alloc | apply Kd.S_drewN | apply Kd.S_drew)); exact HO144.out) (Kd.R_base ho18) hb); have n2_ := Aside0.mk (Kd.R_below (by (with_reducible repeat (first | apply Kd.R_alloc | apply Kd.R_drewN | apply Kd.R_drew)); exact HO146.out) hb); have n3_ := Aside0.mk (Kd.R_lower ho18 (below_size (by repeat (first | (with_reducible first | exact HB.out | apply below_alloc | apply pw_below_drewN | apply below_drew1) | exact HB.out)))); have n4_ := Aside0.mk (below_step (by repeat (first | (with_reducible first | exact HB.out | apply below_alloc | apply pw_below_drewN | apply below_drew1) | exact HB.out)) hb); clear HO140; clear HO144; clear HO146; clear HB; have HO140 := n0_; have HO144 := n1_; have HO146 := n2_; have HO149 := n3_; have HB := n4_; clear n0_ n1_ n2_ n3_ n4_; clear hb ho18; obtain ⟨Ao19, co19, eo19⟩ := Kd.S_slice HO144.out; subst eo19))
      go_loopg [36] kj2 (fun kq v36 w' => ∃ (x9_2 : List Int) (x36_2 : Int), v36 = .int .i64 x36_2 ∧ Aside0 (linear_Solve.l0 kq t137 t142 x9_2 t141 (t141.length : Int) x36_2 = some (r1, r2)) ∧ Aside0 (kq ≤ kj2) ∧ Aside0 (Kd.R (Kd.int .i64) 3 w' w.heap.size (fun _ => True) v145 t142) ∧ Aside0 (Kd.R (Kd.int .u8) 5 w' w.heap.size (fun _ => True) v148 x9_2) ∧ Aside0 (Kd.S (Kd.slice 5 (Kd.int .u8)) 22 w' w.heap.size (fun k_ => some k_ ≠ (v148 : Value).ownBlock) (.slice Ao19 t141.length co19) t141) ∧ Aside0 (Below w.heap.size w w'))
      case atStart => exact ⟨(y147), (0), (by first | rfl | (simp; done) | (simp [*]; done)), H', ⟨Nat.le_refl _⟩, ⟨by (with_reducible repeat (first | apply Kd.R_alloc | apply Kd.R_drewN | apply Kd.R_drew)); exact HO146.out⟩, ⟨by (with_reducible repeat (first | apply Kd.R_alloc | apply Kd.R_drewN | apply Kd.R_drew)); exact HO149.out⟩, ⟨by (with_reducible repeat (first | apply Kd.S_alloc | apply Kd.S_drewN | apply Kd.S_drew)); exact Kd.S_mono HO144.out (fun _ hk => hk.2)⟩, ⟨by repeat (first | (with_reducible first | exact HB.out | apply below_alloc | apply pw_below_drewN | apply below_drew1) | exact HB.out)⟩⟩
      case round =>
       clear H'
       try clear c1
       try clear c2
       try clear p2
       try clear c3
       try clear c5
       try clear c8
       try clear c12
       try clear c12b0
       try clear c12b1
       try clear c13
       try clear c13b0
       try clear c13b1
       try clear p2
       obtain ⟨x9_2, x36_2, rfl, HA, HK2, HO_8, HO_9, HO_34, HB⟩ := hrel
       cases gk with
       | zero => exact absurd HA.out (by simp [linear_Solve.l0])
       | succ k2 =>
        have H := HA.out
        clear HA
        simp only [linear_Solve.l0] at H
        by_cases c20 : x36_2 < (t141.length : Int)
        ·rw [if_pos c20] at H
         have c20b0 : decide (x36_2 < (t141.length : Int)) = true := decide_eq_true c20
         clear c20
         by_cases c21 : 0 ≤ x36_2
         ·rw [if_pos c21] at H
          have c21b0 : decide (0 ≤ x36_2) = true := decide_eq_true c21
          clear c21
          by_cases c22 : x36_2 < (t141.length : Int)
          ·rw [if_pos c22] at H
           have c22b0 : decide (x36_2 < (t141.length : Int)) = true := decide_eq_true c22
           clear c22
           by_cases c23 : x36_2 < (t142.length : Int)
           ·rw [if_pos c23] at H
            have c23b0 : decide (x36_2 < (t142.length : Int)) = true := decide_eq_true c23
            clear c23
            by_cases c24 : 0 ≤ t137
            ·rw [if_pos c24] at H
             have c24b0 : decide (0 ≤ t137) = true := decide_eq_true c24
             clear c24
             by_cases c25 : t137 < ((rd_L2 t141 x36_2).length : Int)
             ·rw [if_pos c25] at H
              have c25b0 : decide (t137 < ((rd_L2 t141 x36_2).length : Int)) = true := decide_eq_true c25
              clear c25
              by_cases c26 : 0 ≤ (rd t142 x36_2)
              ·rw [if_pos c26] at H
               have c26b0 : decide (0 ≤ (rd t142 x36_2)) = true := decide_eq_true c26
               clear c26
               by_cases c27 : (rd t142 x36_2) < (x9_2.length : Int)
               ·rw [if_pos c27] at H
                have c27b0 : decide ((rd t142 x36_2) < (x9_2.length : Int)) = true := decide_eq_true c27
                clear c27
                obtain ⟨y153, hy153⟩ : ∃ y_ : List Int, y_ = (x9_2.set ((rd t142 x36_2) : Int).toNat (rd (rd_L2 t141 x36_2) t137)) := ⟨_, rfl⟩
                replace H : (linear_Solve.l0 k2 t137 t142 y153 t141 (t141.length : Int) (wrap64 (x36_2 + 1))) = some (r1, r2) := by first | (rw [hy153]; with_reducible exact H) | (have H2_ := (Option.bind_some _ _).symm.trans H; rw [hy153]; with_reducible exact H2_) | (have H2_ := (Option.bind_some _ _).symm.trans H; with_reducible exact H2_) | with_reducible exact H | (rw [hy153]; exact H) | exact H
                have Ny153 := Aside0.mk hy153
                clear hy153
                have H' := Aside0.mk H
                clear H
                have p150 : 0 ≤ (x36_2 : Int) := of_decide_eq_true (by first | (with_reducible assumption) | assumption)
                have q150 : x36_2 < (t141.length : Int) := of_decide_eq_true (by first | (with_reducible assumption) | assumption)
                obtain ⟨ad150, A150_0, c150_0, e150, hx150_0, hl150_0, hi150_0⟩ := at_L2 (Kd.S_reads' HO_34.out).2.2 x36_2 p150 q150
                cases e150
                obtain ⟨ce150, hce150, hMe150, hcc150⟩ := Kd.S_get HO_34.out [] x36_2 p150 (by first | exact q150 | exact of_decide_eq_true (by first | (with_reducible assumption) | assumption) | (have e_ := (Kd.S_reads' HO_34.out).1; omega))
                obtain ⟨ve150_0, rfl, ge150_0⟩ := hMe150
                have hv150_0 := hcc150 0 _ rfl
                rw [Nat.add_zero, show ((Kd.slice 5 (Kd.int .u8))).sz = 1 from rfl, Nat.mul_one] at hv150_0
                replace hv150_0 := Option.some.inj (hv150_0.symm.trans hx150_0)
                rw [hv150_0] at ge150_0
                have HL150_0 := Aside0.mk (show Kd.R (Kd.int .u8) 5 _ _ _ _ (rd_L2 t141 x36_2) from ge150_0)
                clear hv150_0 ge150_0
                clear hcc150 hce150
                have HR150_0 := Aside0.mk hi150_0
                have HC150_0 := Aside0.mk hl150_0
                clear hi150_0 hl150_0
                replace p150 := eq_true p150
                replace q150 := eq_true q150
                obtain ⟨Ao29, co29, eo29⟩ := Kd.R_slice HO_8.out
                subst eo29
                try go_wp2
                have n0_ := Aside0.mk (Kd.R_drew HO_8.out)
                have n1_ := Aside0.mk (Kd.R_drew HO_9.out)
                have n2_ := Aside0.mk (Kd.S_drew HO_34.out)
                have n3_ := Aside0.mk (Kd.R_drew HL150_0.out)
                have n4_ := Aside0.mk (Kd.C_drew HR150_0.out)
                have n5_ := Aside0.mk (below_drew1 HB.out)
                clear HO_8
                clear HO_9
                clear HO_34
                clear HL150_0
                clear HR150_0
                clear HB
                have HO_8 := n0_
                have HO_9 := n1_
                have HO_34 := n2_
                have HL150_0 := n3_
                have HR150_0 := n4_
                have HB := n5_
                clear n0_ n1_ n2_ n3_ n4_ n5_
                have p151 : 0 ≤ (x36_2 : Int) := of_decide_eq_true (by first | (with_reducible assumption) | assumption)
                have q151 : x36_2 < (t142.length : Int) := of_decide_eq_true (by first | (with_reducible assumption) | assumption)
                obtain ⟨ad151, e151, hx151_0⟩ := Kd.at_int (Kd.R_reads' HO_8.out).2.2 x36_2 p151 q151
                cases e151
                replace p151 := eq_true p151
                replace q151 := eq_true q151
                have p152 : 0 ≤ (t137 : Int) := of_decide_eq_true (by first | (with_reducible assumption) | assumption)
                have q152 : t137 < ((rd_L2 t141 x36_2).length : Int) := of_decide_eq_true (by first | (with_reducible assumption) | assumption)
                obtain ⟨ad152, e152, hx152_0⟩ := Kd.at_int (by repeat (first | (with_reducible exact HR150_0.out) | (with_reducible refine Kd.C_alloc ?_ _) | (with_reducible refine Kd.C_drewN ?_ _) | (with_reducible refine Kd.C_drew ?_) | exact HR150_0.out)) t137 p152 q152
                cases e152
                replace p152 := eq_true p152
                replace q152 := eq_true q152
                have p28 : 0 ≤ ((rd t142 x36_2) : Int) := of_decide_eq_true (by first | (with_reducible assumption) | assumption)
                have q28 : ((rd t142 x36_2) : Int) < ((x9_2.length : Int) : Int) := of_decide_eq_true (by first | (with_reducible assumption) | assumption)
                obtain ⟨go28, co28, eo28, gb28, gl28, cl28, HG28⟩ := Kd.R_form HO_9.out (by omega)
                (first | cases eo28 | (injection eo28 with ea_ en_ ec_; (first | subst ea_ | (injection ea_ with ea_; subst ea_)); subst ec_; clear en_))
                have GB28 := Aside0.mk gb28
                have GG28 := Aside0.mk HG28
                clear gb28 gl28 HG28
                obtain ⟨hx28_0, hf28_0⟩ := Kd.R_celln 0 HO_9.out ((rd t142 x36_2) : Int) p28 q28
                replace p28 := eq_true p28
                replace q28 := eq_true q28
                have HP31 := Kd.R_putn HO_9.out ((rd t142 x36_2) : Int) (rd (rd_L2 t141 x36_2) t137)
                rw [← Ny153.out] at HP31
                have HQ31 := Aside0.mk HP31
                clear HP31
                refine start_ (n := 11) (S := fun w' => w'.cell? (ad151.add (x36_2).toNat) = some (.int .i64 (rd t142 x36_2)) ∧ w'.cell? (ad152.add (t137).toNat) = some (.int .u8 (rd (rd_L2 t141 x36_2) t137))) (ds := [10]) #[false, false, false, false, false, false, false, false, false, false, false] (by kernel_rfl) rfl rfl ⟨hx151_0, hx152_0⟩ (fun hHeld => ?_); refine with_tabW linear_Solve.tab10 linear_Solve.bits10 (fun HT_ HW_ => ?_)
                generalize wr.drew = w30 at HO_8 HO_9 HO_34 HL150_0 HR150_0 HB GG28 HQ31 hf28_0 hx151_0 hx152_0 hx28_0 hHeld ⊢
                refine pure_ (i := 0) (N := some 46) (v := ?_) (a' := ?_) #[true, false, false, false, false, false, false, false, false, false, false] rfl rfl (any_of HT_.out (by kernel_rfl)) (fun _ _ _ h => h) (Or.inl ⟨by rfl, ?_⟩) ?_ ?_
                rotate_left
                ·intro w'
                 go_simp
                 with_reducible rfl
                rotate_left
                ·simp only [Act.put, List.setIfInBounds_toArray, List.set_cons_zero, List.set_cons_succ, i64_w, i32_w]
                 rfl
                refine pure_ (i := 1) (N := some 47) (v := ?_) (a' := ?_) #[true, true, false, false, false, false, false, false, false, false, false] rfl rfl (any_of HT_.out (by kernel_rfl)) (fun _ _ _ h => h) (Or.inl ⟨by rfl, ?_⟩) ?_ ?_
                rotate_left
                ·intro w'
                 go_simp
                 with_reducible rfl
                rotate_left
                ·simp only [Act.put, List.setIfInBounds_toArray, List.set_cons_zero, List.set_cons_succ, i64_w, i32_w]
                 rfl
                refine pure_ (i := 2) (N := some 48) (v := ?_) (a' := ?_) #[true, true, true, false, false, false, false, false, false, false, false] rfl rfl (any_of HT_.out (by kernel_rfl)) (fun _ _ _ h => h) (Or.inl ⟨by rfl, ?_⟩) ?_ ?_
                rotate_left
                ·intro w'
                 go_simp
                 with_reducible rfl
                rotate_left
                ·simp only [Act.put, List.setIfInBounds_toArray, List.set_cons_zero, List.set_cons_succ, i64_w, i32_w]
                 rfl
                refine pure_ (i := 3) (N := some 49) (v := ?_) (a' := ?_) #[true, true, true, true, false, false, false, false, false, false, false] rfl rfl (any_of HT_.out (by kernel_rfl)) (fun _ _ _ h => h) (Or.inl ⟨by rfl, ?_⟩) ?_ ?_
                rotate_left
                ·intro w'
                 go_simp
                 with_reducible rfl
                rotate_left
                ·simp only [Act.put, List.setIfInBounds_toArray, List.set_cons_zero, List.set_cons_succ, i64_w, i32_w]
                 rfl
                refine pure_ (i := 5) (N := some 51) (v := ?_) (a' := ?_) #[true, true, true, true, false, true, false, false, false, false, false] rfl rfl (any_of HT_.out (by kernel_rfl)) (fun _ _ _ h => h) (Or.inl ⟨by rfl, ?_⟩) ?_ ?_
                rotate_left
                ·intro w'
                 go_simp
                 with_reducible rfl
                rotate_left
                ·simp only [Act.put, List.setIfInBounds_toArray, List.set_cons_zero, List.set_cons_succ, i64_w, i32_w]
                 rfl
                refine pure_ (i := 6) (N := some 52) (v := ?_) (a' := ?_) #[true, true, true, true, false, true, true, false, false, false, false] rfl rfl (any_of HT_.out (by kernel_rfl)) (fun _ _ _ h => h) (Or.inl ⟨by rfl, ?_⟩) ?_ ?_
                rotate_left
                ·intro w'
                 go_simp
                 with_reducible rfl
                rotate_left
                ·simp only [Act.put, List.setIfInBounds_toArray, List.set_cons_zero, List.set_cons_succ, i64_w, i32_w]
                 rfl
                refine pure_ (i := 7) (N := some 53) (v := ?_) (a' := ?_) #[true, true, true, true, false, true, true, true, false, false, false] rfl rfl (any_of HT_.out (by kernel_rfl)) (fun _ _ _ h => h) (Or.inl ⟨by rfl, ?_⟩) ?_ ?_
                rotate_left
                ·intro w'
                 go_simp
                 with_reducible rfl
                rotate_left
                ·simp only [Act.put, List.setIfInBounds_toArray, List.set_cons_zero, List.set_cons_succ, i64_w, i32_w]
                 rfl
                refine take_ (i := 4) (N := some 50) (v := ?_) (a' := ?_) #[true, true, true, true, true, true, true, true, false, false, false] rfl rfl (take_ofW HT_.out HW_.out (by kernel_rfl)) (fun _ _ _ h => h) (Or.inl ⟨by rfl, ?_⟩) hHeld ?_ ?_
                rotate_left
                ·rintro w' ⟨s0, s1⟩
                 go_simp
                 with_reducible rfl
                rotate_left
                ·simp only [Act.put, List.setIfInBounds_toArray, List.set_cons_zero, List.set_cons_succ, i64_w, i32_w]
                 rfl
                refine take_ (i := 8) (N := some 54) (v := ?_) (a' := ?_) #[true, true, true, true, true, true, true, true, true, false, false] rfl rfl (take_ofW HT_.out HW_.out (by kernel_rfl)) (fun _ _ _ h => h) (Or.inl ⟨by rfl, ?_⟩) hHeld ?_ ?_
                rotate_left
                ·rintro w' ⟨s0, s1⟩
                 go_simp
                 with_reducible rfl
                rotate_left
                ·simp only [Act.put, List.setIfInBounds_toArray, List.set_cons_zero, List.set_cons_succ, i64_w, i32_w]
                 rfl
                refine pure_ (i := 9) (N := some 55) (v := ?_) (a' := ?_) #[true, true, true, true, true, true, true, true, true, true, false] rfl rfl (any_of HT_.out (by kernel_rfl)) (fun _ _ _ h => h) (Or.inl ⟨by rfl, ?_⟩) ?_ ?_
                rotate_left
                ·intro w'
                 go_simp
                 with_reducible rfl
                rotate_left
                ·simp only [Act.put, List.setIfInBounds_toArray, List.set_cons_zero, List.set_cons_succ, i64_w, i32_w]
                 rfl
                refine last_ (i := 10) (N := none) #[true, true, true, true, true, true, true, true, true, true, true] rfl rfl (one_of HT_.out (by kernel_rfl)) (by decide) (fun K hK => ?_)
                refine skip_ (w1 := ?_) (by rfl) rfl ?_ ?_
                rotate_left
                ·go_simp
                 rfl
                refine hK.out _ _ ?_
                clear hK K
                refine done_ (done_of HT_.out (by kernel_rfl)) ?_
                try go_wp2
                go_roundg k2
                case measure => have := HJ2.out; have := HK2.out; omega
                case rel => exact ⟨(y153), (wrap64 (x36_2 + 1)), (by first | rfl | (simp; done) | (simp [*]; done)), H', ⟨by have := HJ2.out; have := HK2.out; omega⟩, ⟨by (with_reducible repeat (first | apply Kd.R_alloc | apply Kd.R_drewN | apply Kd.R_drew)); exact Kd.R_mono (Kd.R_far (p := ⟨go28, ((rd t142 x36_2) : Int).toNat, none⟩) (Kd.R_types HO_8.out GG28.out (by decide)) (fun _ hk => hk.2) (.int .u8 (rd (rd_L2 t141 x36_2) t137))) (fun _ hk => trivial)⟩, ⟨by (with_reducible repeat (first | apply Kd.R_alloc | apply Kd.R_drewN | apply Kd.R_drew)); exact HQ31.out⟩, ⟨by (with_reducible repeat (first | apply Kd.S_alloc | apply Kd.S_drewN | apply Kd.S_drew)); exact Kd.S_mono (Kd.S_far (p := ⟨go28, ((rd t142 x36_2) : Int).toNat, none⟩) (Kd.S_mono HO_34.out (fun k_ hk => (⟨hk, fun e_ => hk (by rw [e_]; rfl)⟩ : _ ∧ k_ ≠ go28))) (fun _ hk => hk.2) (.int .u8 (rd (rd_L2 t141 x36_2) t137))) (fun _ hk => hk.1)⟩, ⟨by repeat (first | (with_reducible first | exact HB.out | apply below_alloc | apply pw_below_drewN | apply below_drew1 | refine below_set ?_ GB28.out) | exact HB.out)⟩⟩
               ·rw [if_neg c27] at H
                exact absurd H (by simp)
              ·rw [if_neg c26] at H
               exact absurd H (by simp)
             ·rw [if_neg c25] at H
              exact absurd H (by simp)
            ·rw [if_neg c24] at H
             exact absurd H (by simp)
           ·rw [if_neg c23] at H
            have c23b0 : decide (x36_2 < (t142.length : Int)) = false := decide_eq_false c23
            clear c23
            by_cases c32 : 0 ≤ t137
            ·rw [if_pos c32] at H
             have c32b0 : decide (0 ≤ t137) = true := decide_eq_true c32
             clear c32
             by_cases c33 : t137 < ((rd_L2 t141 x36_2).length : Int)
             ·rw [if_pos c33] at H
              have c33b0 : decide (t137 < ((rd_L2 t141 x36_2).length : Int)) = true := decide_eq_true c33
              clear c33
              by_cases c34 : (rd (rd_L2 t141 x36_2) t137) = 0
              ·rw [if_pos c34] at H
               have c34b0 : ((rd (rd_L2 t141 x36_2) t137) == 0) = true := beq_iff_eq.mpr c34
               have c34b1 : ((rd (rd_L2 t141 x36_2) t137) != 0) = false := bne_eq_false_iff_eq.mpr c34
               clear c34
               have H' := Aside0.mk H
               clear H
               have p150 : 0 ≤ (x36_2 : Int) := of_decide_eq_true (by first | (with_reducible assumption) | assumption)
               have q150 : x36_2 < (t141.length : Int) := of_decide_eq_true (by first | (with_reducible assumption) | assumption)
               obtain ⟨ad150, A150_0, c150_0, e150, hx150_0, hl150_0, hi150_0⟩ := at_L2 (Kd.S_reads' HO_34.out).2.2 x36_2 p150 q150
               cases e150
               obtain ⟨ce150, hce150, hMe150, hcc150⟩ := Kd.S_get HO_34.out [] x36_2 p150 (by first | exact q150 | exact of_decide_eq_true (by first | (with_reducible assumption) | assumption) | (have e_ := (Kd.S_reads' HO_34.out).1; omega))
               obtain ⟨ve150_0, rfl, ge150_0⟩ := hMe150
               have hv150_0 := hcc150 0 _ rfl
               rw [Nat.add_zero, show ((Kd.slice 5 (Kd.int .u8))).sz = 1 from rfl, Nat.mul_one] at hv150_0
               replace hv150_0 := Option.some.inj (hv150_0.symm.trans hx150_0)
               rw [hv150_0] at ge150_0
               have HL150_0 := Aside0.mk (show Kd.R (Kd.int .u8) 5 _ _ _ _ (rd_L2 t141 x36_2) from ge150_0)
               clear hv150_0 ge150_0
               clear hcc150 hce150
               have HR150_0 := Aside0.mk hi150_0
               have HC150_0 := Aside0.mk hl150_0
               clear hi150_0 hl150_0
               replace p150 := eq_true p150
               replace q150 := eq_true q150
               obtain ⟨Ao35, co35, eo35⟩ := Kd.R_slice HO_8.out
               subst eo35
               have p154 : 0 ≤ (t137 : Int) := of_decide_eq_true (by first | (with_reducible assumption) | assumption)
               have q154 : t137 < ((rd_L2 t141 x36_2).length : Int) := of_decide_eq_true (by first | (with_reducible assumption) | assumption)
               obtain ⟨ad154, e154, hx154_0⟩ := Kd.at_int (by repeat (first | (with_reducible exact HR150_0.out) | (with_reducible refine Kd.C_alloc ?_ _) | (with_reducible refine Kd.C_drewN ?_ _) | (with_reducible refine Kd.C_drew ?_) | exact HR150_0.out)) t137 p154 q154
               cases e154
               replace p154 := eq_true p154
               replace q154 := eq_true q154
               go_wp2
               go_roundg k2
               case measure => have := HJ2.out; have := HK2.out; omega
               case rel => exact ⟨(x9_2), (wrap64 (x36_2 + 1)), (by first | rfl | (simp; done) | (simp [*]; done)), H', ⟨by have := HJ2.out; have := HK2.out; omega⟩, ⟨by (with_reducible repeat (first | apply Kd.R_alloc | apply Kd.R_drewN | apply Kd.R_drew)); exact HO_8.out⟩, ⟨by (with_reducible repeat (first | apply Kd.R_alloc | apply Kd.R_drewN | apply Kd.R_drew)); exact HO_9.out⟩, ⟨by (with_reducible repeat (first | apply Kd.S_alloc | apply Kd.S_drewN | apply Kd.S_drew)); exact HO_34.out⟩, ⟨by repeat (first | (with_reducible first | exact HB.out | apply below_alloc | apply pw_below_drewN | apply below_drew1) | exact HB.out)⟩⟩
              ·rw [if_neg c34] at H
               have c34b0 : ((rd (rd_L2 t141 x36_2) t137) == 0) = false := beq_eq_false_iff_ne.mpr c34
               have c34b1 : ((rd (rd_L2 t141 x36_2) t137) != 0) = true := bne_iff_ne.mpr c34
               simp only [Option.some.injEq, Prod.mk.injEq] at H
               obtain ⟨rfl, rfl⟩ := H
               have p150 : 0 ≤ (x36_2 : Int) := of_decide_eq_true (by first | (with_reducible assumption) | assumption)
               have q150 : x36_2 < (t141.length : Int) := of_decide_eq_true (by first | (with_reducible assumption) | assumption)
               obtain ⟨ad150, A150_0, c150_0, e150, hx150_0, hl150_0, hi150_0⟩ := at_L2 (Kd.S_reads' HO_34.out).2.2 x36_2 p150 q150
               cases e150
               obtain ⟨ce150, hce150, hMe150, hcc150⟩ := Kd.S_get HO_34.out [] x36_2 p150 (by first | exact q150 | exact of_decide_eq_true (by first | (with_reducible assumption) | assumption) | (have e_ := (Kd.S_reads' HO_34.out).1; omega))
               obtain ⟨ve150_0, rfl, ge150_0⟩ := hMe150
               have hv150_0 := hcc150 0 _ rfl
               rw [Nat.add_zero, show ((Kd.slice 5 (Kd.int .u8))).sz = 1 from rfl, Nat.mul_one] at hv150_0
               replace hv150_0 := Option.some.inj (hv150_0.symm.trans hx150_0)
               rw [hv150_0] at ge150_0
               have HL150_0 := Aside0.mk (show Kd.R (Kd.int .u8) 5 _ _ _ _ (rd_L2 t141 x36_2) from ge150_0)
               clear hv150_0 ge150_0
               clear hcc150 hce150
               have HR150_0 := Aside0.mk hi150_0
               have HC150_0 := Aside0.mk hl150_0
               clear hi150_0 hl150_0
               replace p150 := eq_true p150
               replace q150 := eq_true q150
               obtain ⟨Ao36, co36, eo36⟩ := Kd.R_slice HO_8.out
               subst eo36
               have p154 : 0 ≤ (t137 : Int) := of_decide_eq_true (by first | (with_reducible assumption) | assumption)
               have q154 : t137 < ((rd_L2 t141 x36_2).length : Int) := of_decide_eq_true (by first | (with_reducible assumption) | assumption)
               obtain ⟨ad154, e154, hx154_0⟩ := Kd.at_int (by repeat (first | (with_reducible exact HR150_0.out) | (with_reducible refine Kd.C_alloc ?_ _) | (with_reducible refine Kd.C_drewN ?_ _) | (with_reducible refine Kd.C_drew ?_) | exact HR150_0.out)) t137 p154 q154
               cases e154
               replace p154 := eq_true p154
               replace q154 := eq_true q154
               go_wp2
               go_ret2
               exact ⟨_, by first | rfl | (simp [errW_none, errW_some] <;> rfl) | (simp [*, errW_none, errW_some] <;> rfl), by first | exact Kd.R_nil _ _ _ _ _ | exact Kd.N_nil _ _ _ _ _ | exact Kd.V_nil _ _ _ _ _ | exact Kd.Q_nil _ _ _ _ _ | exact Kd.S_nil _ _ _ _ _, by repeat (first | (with_reducible first | exact HB.out | apply below_alloc | apply pw_below_drewN | apply below_drew1) | exact HB.out)⟩
             ·rw [if_neg c33] at H
              exact absurd H (by simp)
            ·rw [if_neg c32] at H
             exact absurd H (by simp)
          ·rw [if_neg c22] at H
           exact absurd H (by simp)
         ·rw [if_neg c21] at H
          exact absurd H (by simp)
        ·rw [if_neg c20] at H
         have c20b0 : decide (x36_2 < (t141.length : Int)) = false := decide_eq_false c20
         clear c20
         simp only [Option.some.injEq, Prod.mk.injEq] at H
         obtain ⟨rfl, rfl⟩ := H
         go_wp2
         go_ret2
         exact ⟨_, by first | rfl | (simp [errW_none, errW_some] <;> rfl) | (simp [*, errW_none, errW_some] <;> rfl), by (with_reducible repeat (first | apply Kd.R_alloc | apply Kd.R_drewN | apply Kd.R_drew)); exact HO_9.out, by repeat (first | (with_reducible first | exact HB.out | apply below_alloc | apply pw_below_drewN | apply below_drew1) | exact HB.out)⟩
     ·rw [if_neg c13] at H
      exact absurd H (by simp)
    ·rw [if_neg c12] at H
     exact absurd H (by simp)
def gf_Pow.f (k : Nat) (a0 : Int) (a1 : Int) : Option (Int) := if a1 = 0 then (some 1) else (if a0 = 0 then (some 0) else ((gf_power.f k a0 (Int.tmod (wrap64 ((Int.tmod a1 255) + 255)) 255)).bind fun t155 => (some t155)))
theorem gf_Pow.mono : ∀ a0 a1 k, LeO (gf_Pow.f k a0 a1) (gf_Pow.f (k + 1) a0 a1) := by
 intro a0 a1 k
 unfold gf_Pow.f
 repeat' first
  | (with_reducible exact gf_power.mono _ _ _)
  | (with_reducible exact LeO.refl _)
  | (with_reducible exact LeO.none _)
  | (with_reducible refine LeO.ite ?_ ?_)
  | (with_reducible refine LeO.bind ?_ (fun _ => ?_))
  | exact gf_power.mono _ _ _
  | exact LeO.none _
  | refine LeO.ite ?_ ?_
  | refine LeO.bind ?_ (fun _ => ?_)
set_option maxHeartbeats 8000000 in
set_option maxRecDepth 100000 in
theorem gf_Pow.calls (k : Nat) (a0 : Int) (a1 : Int) (r : Int) (w : World) (h : gf_Pow.f k a0 a1 = some r) :
 Calls Try.prog 36 #[.int .u8 a0, .int .i64 a1] w fun e w' => e = .returned (.int .u8 r) ∧ Drawn0 w w' := by
 have H : (if a1 = 0 then (some 1) else (if a0 = 0 then (some 0) else ((gf_power.f k a0 (Int.tmod (wrap64 ((Int.tmod a1 255) + 255)) 255)).bind fun t155 => (some t155)))) = some r := h
 clear h
 by_cases c3 : a1 = 0
 ·rw [if_pos c3] at H
  have c3b0 : (a1 == 0) = true := beq_iff_eq.mpr c3
  have c3b1 : (a1 != 0) = false := bne_eq_false_iff_eq.mpr c3
  clear c3
  obtain rfl := Option.some.inj H
  go_enter Try.func36, Try.ntmps36
  go_wp2
  go_ret
  exact ⟨by first | rfl | (simp; done) | (simp [*]; done), by repeat (first | exact Drawn0.refl _ | apply Drawn0.step)⟩
 ·rw [if_neg c3] at H
  have c3b0 : (a1 == 0) = false := beq_eq_false_iff_ne.mpr c3
  have c3b1 : (a1 != 0) = true := bne_iff_ne.mpr c3
  by_cases c4 : a0 = 0
  ·rw [if_pos c4] at H
   have c4b0 : (a0 == 0) = true := beq_iff_eq.mpr c4
   have c4b1 : (a0 != 0) = false := bne_eq_false_iff_eq.mpr c4
   clear c4
   obtain rfl := Option.some.inj H
   go_enter Try.func36, Try.ntmps36
   go_wp2
   go_ret
   exact ⟨by first | rfl | (simp; done) | (simp [*]; done), by repeat (first | exact Drawn0.refl _ | apply Drawn0.step)⟩
  ·rw [if_neg c4] at H
   have c4b0 : (a0 == 0) = false := beq_eq_false_iff_ne.mpr c4
   have c4b1 : (a0 != 0) = true := bne_iff_ne.mpr c4
   replace H := Option.bind_eq_some_iff.mp H
   obtain ⟨t155, A50, H⟩ := H
   replace H : (some t155) = some r := H
   have A5 := Aside0.mk A50
   clear A50
   obtain rfl := Option.some.inj H
   go_enter Try.func36, Try.ntmps36
   go_wp2_with (first | ((with_reducible refine gate_callee (f := 50) rfl ?_); refine goesL_ (some 16) rfl rfl Try.func50 (by kernel_rfl) rfl #[.int .u8 a0, .int .i64 (Int.tmod (wrap64 ((Int.tmod a1 255) + 255)) 255)] rfl (by (try simp only [List.map_toArray, List.map_cons, List.map_nil]); first | done | rfl | (simp only [List.length_drop, List.length_take]; rfl)) ?_; (with_reducible refine (gf_power.calls k a0 (Int.tmod (wrap64 ((Int.tmod a1 255) + 255)) 255) t155 _ A5.out).mono ?_); rintro e w' ⟨rfl, ⟨nd, rfl⟩⟩; refine ⟨_, rfl, ?_⟩))
   go_ret
   exact ⟨by first | rfl | (simp; done) | (simp [*]; done), by repeat (first | exact Drawn0.refl _ | apply Drawn0.step)⟩
end Go.Proofs.Ytndljfagojnidaa.P
namespace Go.Proofs.Ytndljfagojnidaa.P
open Go.RowKit Go.Proofs.YtndljfagojnidaaW.PrintWords Go.Proofs.YtndljfagojnidaaW.PrintLast Go.Proofs.YtndljfagojnidaaW.PrintMore
attribute [local go_sem] max2_int min2_int max_two min_two max_three min_three max_four min_four
set_option linter.unusedVariables false
set_option linter.unusedSimpArgs false
mutual
def welch_equations.l0 : Nat → List Int → Int → Int → List (List Int) → List Int → List Bool → Int → Int → Option ((List (List Int)) × List Int)
 | 0, _, _, _, _, _, _, _, _ => none
 | k + 1, x0, x2, x3, x8, x9, x17, x18, x19 => if x19 < x18 then (if 0 ≤ x19 then (if x19 < (x17.length : Int) then (if rdOf false x17 x19 = true then (if x19 < (x0.length : Int) then (welch_equations.l1 k x0 x2 x3 x8 x9 ((x19) % 256) (rd x0 x19) ([] : List Int) x17 x18 x19 x3 0) else (none)) else (welch_equations.l0 k x0 x2 x3 x8 x9 x17 x18 (wrap64 (x19 + 1)))) else (none)) else (none)) else (some (x8, x9))
def welch_equations.l1 : Nat → List Int → Int → Int → List (List Int) → List Int → Int → Int → List Int → List Bool → Int → Int → Int → Int → Option ((List (List Int)) × List Int)
 | 0, _, _, _, _, _, _, _, _, _, _, _, _, _ => none
 | k + 1, x0, x2, x3, x8, x9, x12, x13, x14, x17, x18, x19, x32, x33 => if x33 < x32 then ((gf_Pow.f k x12 x33).bind fun t158 => ((gf_Mul.f k x13 t158).bind fun t159 => (if x14.length < 140737488355328 then (welch_equations.l1 k x0 x2 x3 x8 x9 x12 x13 (x14 ++ [t159]) x17 x18 x19 x32 (wrap64 (x33 + 1))) else (none)))) else (welch_equations.l2 k x0 x2 x3 x8 x9 x12 x13 x14 x17 x18 x19 (wrap64 (x2 + x3)) 0)
def welch_equations.l2 : Nat → List Int → Int → Int → List (List Int) → List Int → Int → Int → List Int → List Bool → Int → Int → Int → Int → Option ((List (List Int)) × List Int)
 | 0, _, _, _, _, _, _, _, _, _, _, _, _, _ => none
 | k + 1, x0, x2, x3, x8, x9, x12, x13, x14, x17, x18, x19, x47, x48 => if x48 < x47 then ((gf_Pow.f k x12 x48).bind fun t163 => (if x14.length < 140737488355328 then (welch_equations.l2 k x0 x2 x3 x8 x9 x12 x13 (x14 ++ [t163]) x17 x18 x19 x47 (wrap64 (x48 + 1))) else (none))) else (if x8.length < 5864062014805 then ((gf_Pow.f k x12 x3).bind fun t170 => ((gf_Mul.f k x13 t170).bind fun t171 => (if x9.length < 140737488355328 then (welch_equations.l0 k x0 x2 x3 (x8 ++ [x14]) (x9 ++ [t171]) x17 x18 (wrap64 (x19 + 1))) else (none)))) else (none))
end
def welch_equations.f (k : Nat) (l0 : List Int) (l1 : List Bool) (a2 : Int) (a3 : Int) : Option ((List (List Int)) × List Int) := welch_equations.l0 k l0 a2 a3 ([] : List (List Int)) ([] : List Int) l1 (l1.length : Int) 0
theorem welch_equations.mono_l : ∀ k, (∀ y0 y1 y2 y3 y4 y5 y6 y7, LeO (welch_equations.l0 k y0 y1 y2 y3 y4 y5 y6 y7) (welch_equations.l0 (k + 1) y0 y1 y2 y3 y4 y5 y6 y7)) ∧ (∀ y0 y1 y2 y3 y4 y5 y6 y7 y8 y9 y10 y11 y12, LeO (welch_equations.l1 k y0 y1 y2 y3 y4 y5 y6 y7 y8 y9 y10 y11 y12) (welch_equations.l1 (k + 1) y0 y1 y2 y3 y4 y5 y6 y7 y8 y9 y10 y11 y12)) ∧ (∀ y0 y1 y2 y3 y4 y5 y6 y7 y8 y9 y10 y11 y12, LeO (welch_equations.l2 k y0 y1 y2 y3 y4 y5 y6 y7 y8 y9 y10 y11 y12) (welch_equations.l2 (k + 1) y0 y1 y2 y3 y4 y5 y6 y7 y8 y9 y10 y11 y12))
 | 0 => ⟨fun _ _ _ _ _ _ _ _ r h => by simp [welch_equations.l0] at h, fun _ _ _ _ _ _ _ _ _ _ _ _ _ r h => by simp [welch_equations.l1] at h, fun _ _ _ _ _ _ _ _ _ _ _ _ _ r h => by simp [welch_equations.l2] at h⟩
 | k + 1 => by
  obtain ⟨ih0, ih1, ih2⟩ := welch_equations.mono_l k
  refine ⟨?_, ?_, ?_⟩
  ·intro y0 y1 y2 y3 y4 y5 y6 y7
   unfold welch_equations.l0
   repeat' first
   | (with_reducible exact ih0 _ _ _ _ _ _ _ _)
   | (with_reducible exact ih1 _ _ _ _ _ _ _ _ _ _ _ _ _)
   | (with_reducible exact ih2 _ _ _ _ _ _ _ _ _ _ _ _ _)
   | (with_reducible exact gf_Mul.mono _ _ _)
   | (with_reducible exact gf_Pow.mono _ _ _)
   | (with_reducible exact LeO.refl _)
   | (with_reducible exact LeO.none _)
   | (with_reducible refine LeO.ite ?_ ?_)
   | (with_reducible refine LeO.bind ?_ (fun _ => ?_))
   | exact ih0 _ _ _ _ _ _ _ _
   | exact ih1 _ _ _ _ _ _ _ _ _ _ _ _ _
   | exact ih2 _ _ _ _ _ _ _ _ _ _ _ _ _
   | exact gf_Mul.mono _ _ _
   | exact gf_Pow.mono _ _ _
   | exact LeO.none _
   | refine LeO.ite ?_ ?_
   | refine LeO.bind ?_ (fun _ => ?_)
  ·intro y0 y1 y2 y3 y4 y5 y6 y7 y8 y9 y10 y11 y12
   unfold welch_equations.l1
   repeat' first
   | (with_reducible exact ih0 _ _ _ _ _ _ _ _)
   | (with_reducible exact ih1 _ _ _ _ _ _ _ _ _ _ _ _ _)
   | (with_reducible exact ih2 _ _ _ _ _ _ _ _ _ _ _ _ _)
   | (with_reducible exact gf_Mul.mono _ _ _)
   | (with_reducible exact gf_Pow.mono _ _ _)
   | (with_reducible exact LeO.refl _)
   | (with_reducible exact LeO.none _)
   | (with_reducible refine LeO.ite ?_ ?_)
   | (with_reducible refine LeO.bind ?_ (fun _ => ?_))
   | exact ih0 _ _ _ _ _ _ _ _
   | exact ih1 _ _ _ _ _ _ _ _ _ _ _ _ _
   | exact ih2 _ _ _ _ _ _ _ _ _ _ _ _ _
   | exact gf_Mul.mono _ _ _
   | exact gf_Pow.mono _ _ _
   | exact LeO.none _
   | refine LeO.ite ?_ ?_
   | refine LeO.bind ?_ (fun _ => ?_)
  ·intro y0 y1 y2 y3 y4 y5 y6 y7 y8 y9 y10 y11 y12
   unfold welch_equations.l2
   repeat' first
   | (with_reducible exact ih0 _ _ _ _ _ _ _ _)
   | (with_reducible exact ih1 _ _ _ _ _ _ _ _ _ _ _ _ _)
   | (with_reducible exact ih2 _ _ _ _ _ _ _ _ _ _ _ _ _)
   | (with_reducible exact gf_Mul.mono _ _ _)
   | (with_reducible exact gf_Pow.mono _ _ _)
   | (with_reducible exact LeO.refl _)
   | (with_reducible exact LeO.none _)
   | (with_reducible refine LeO.ite ?_ ?_)
   | (with_reducible refine LeO.bind ?_ (fun _ => ?_))
   | exact ih0 _ _ _ _ _ _ _ _
   | exact ih1 _ _ _ _ _ _ _ _ _ _ _ _ _
   | exact ih2 _ _ _ _ _ _ _ _ _ _ _ _ _
   | exact gf_Mul.mono _ _ _
   | exact gf_Pow.mono _ _ _
   | exact LeO.none _
   | refine LeO.ite ?_ ?_
   | refine LeO.bind ?_ (fun _ => ?_)
theorem welch_equations.mono : ∀ a0 a1 a2 a3 k, LeO (welch_equations.f k a0 a1 a2 a3) (welch_equations.f (k + 1) a0 a1 a2 a3) := by
 intro a0 a1 a2 a3 k
 obtain ⟨ih0, ih1, ih2⟩ := welch_equations.mono_l k
 unfold welch_equations.f
 repeat' first
  | (with_reducible exact ih0 _ _ _ _ _ _ _ _)
  | (with_reducible exact ih1 _ _ _ _ _ _ _ _ _ _ _ _ _)
  | (with_reducible exact ih2 _ _ _ _ _ _ _ _ _ _ _ _ _)
  | (with_reducible exact gf_Mul.mono _ _ _)
  | (with_reducible exact gf_Pow.mono _ _ _)
  | (with_reducible exact LeO.refl _)
  | (with_reducible exact LeO.none _)
  | (with_reducible refine LeO.ite ?_ ?_)
  | (with_reducible refine LeO.bind ?_ (fun _ => ?_))
  | exact ih0 _ _ _ _ _ _ _ _
  | exact ih1 _ _ _ _ _ _ _ _ _ _ _ _ _
  | exact ih2 _ _ _ _ _ _ _ _ _ _ _ _ _
  | exact gf_Mul.mono _ _ _
  | exact gf_Pow.mono _ _ _
  | exact LeO.none _
  | refine LeO.ite ?_ ?_
  | refine LeO.bind ?_ (fun _ => ?_)
set_option maxHeartbeats 8000000 in
set_option maxRecDepth 100000 in
theorem welch_equations.calls (k : Nat) (A0 : Option Addr) (c0 : Nat) (l0 : List Int) (A1 : Option Addr) (c1 : Nat) (l1 : List Bool) (a2 : Int) (a3 : Int) (r1 : List (List Int)) (r2 : List Int) (w : World) (hr0 : Kd.C (Kd.int .u8) w A0 l0.length l0) (hc0 : l0.length ≤ c0) (hr1 : Kd.C Kd.bool w A1 l1.length l1) (hc1 : l1.length ≤ c1) (h : welch_equations.f k l0 l1 a2 a3 = some (r1, r2)) :
 Calls Try.prog 25 #[.slice A0 l0.length c0, .slice A1 l1.length c1, .int .i64 a2, .int .i64 a3] w fun e w' => ∃ v0_ v1_ : Value, e = .returned (.tuple #[v0_, v1_]) ∧ Kd.S (Kd.slice 5 (Kd.int .u8)) 22 w' w.heap.size (fun k_ => some k_ ≠ (v1_ : Value).ownBlock) v0_ r1 ∧ Kd.R (Kd.int .u8) 5 w' w.heap.size (fun _ => True) v1_ r2 ∧ Below w.heap.size w w' := by
 have HR0 := Aside0.mk hr0
 have HC0 := Aside0.mk hc0
 clear hr0 hc0
 have HR1 := Aside0.mk hr1
 have HC1 := Aside0.mk hc1
 clear hr1 hc1
 have HB := Aside0.mk (Below.refl w.heap.size w)
 have H : (welch_equations.l0 k l0 a2 a3 ([] : List (List Int)) ([] : List Int) l1 (l1.length : Int) 0) = some (r1, r2) := h
 clear h
 have H' := Aside0.mk H
 clear H
 go_enter Try.func25, Try.ntmps25
 go_wp2
 repeat (go_quiet (fail); try go_wp2)
 go_loopg [8, 9, 19] k (fun kq v8 v9 v19 w' => ∃ (x8_1 : List (List Int)) (x9_1 : List Int) (x19_1 : Int), v19 = .int .i64 x19_1 ∧ Aside0 (welch_equations.l0 kq l0 a2 a3 x8_1 x9_1 l1 (l1.length : Int) x19_1 = some (r1, r2)) ∧ Aside0 (kq ≤ k) ∧ Aside0 (Kd.S (Kd.slice 5 (Kd.int .u8)) 22 w' w.heap.size (fun k_ => some k_ ≠ (v9 : Value).ownBlock) v8 x8_1) ∧ Aside0 (Kd.R (Kd.int .u8) 5 w' w.heap.size (fun _ => True) v9 x9_1) ∧ Aside0 (Below w.heap.size w w'))
 case atStart => exact ⟨(([] : List (List Int))), (([] : List Int)), (0), (by first | rfl | (simp; done) | (simp [*]; done)), H', ⟨Nat.le_refl _⟩, ⟨by first | exact Kd.S_nil _ _ _ _ _ | exact Kd.N_nil _ _ _ _ _ | exact Kd.V_nil _ _ _ _ _ | exact Kd.Q_nil _ _ _ _ _ | exact Kd.R_nil _ _ _ _ _⟩, ⟨by first | exact Kd.R_nil _ _ _ _ _ | exact Kd.N_nil _ _ _ _ _ | exact Kd.V_nil _ _ _ _ _ | exact Kd.Q_nil _ _ _ _ _ | exact Kd.S_nil _ _ _ _ _⟩, ⟨by repeat (first | (with_reducible first | exact HB.out | apply below_alloc | apply pw_below_drewN | apply below_drew1) | exact HB.out)⟩⟩
 case round =>
  clear H'
  try clear c1
  try clear c2
  try clear p2
  obtain ⟨x8_1, x9_1, x19_1, rfl, HA, HK1, HO_8, HO_9, HB⟩ := hrel
  cases gk with
  | zero => exact absurd HA.out (by simp [welch_equations.l0])
  | succ k1 =>
   have H := HA.out
   clear HA
   simp only [welch_equations.l0] at H
   by_cases c5 : x19_1 < (l1.length : Int)
   ·rw [if_pos c5] at H
    have c5b0 : decide (x19_1 < (l1.length : Int)) = true := decide_eq_true c5
    clear c5
    by_cases c6 : 0 ≤ x19_1
    ·rw [if_pos c6] at H
     have c6b0 : decide (0 ≤ x19_1) = true := decide_eq_true c6
     clear c6
     by_cases c7 : x19_1 < (l1.length : Int)
     ·rw [if_pos c7] at H
      have c7b0 : decide (x19_1 < (l1.length : Int)) = true := decide_eq_true c7
      clear c7
      obtain ⟨bq8, hbq8⟩ : ∃ b_ : Bool, b_ = (rdOf false l1 x19_1) := ⟨_, rfl⟩
      replace H : (if bq8 = true then (if x19_1 < (l0.length : Int) then (welch_equations.l1 k1 l0 a2 a3 x8_1 x9_1 ((x19_1) % 256) (rd l0 x19_1) ([] : List Int) l1 (l1.length : Int) x19_1 a3 0) else (none)) else (welch_equations.l0 k1 l0 a2 a3 x8_1 x9_1 l1 (l1.length : Int) (wrap64 (x19_1 + 1)))) = some (r1, r2) := by rw [← hbq8] at H; exact H
      have Nbq8 := Aside0.mk hbq8
      clear hbq8
      by_cases c9 : bq8 = true
      ·subst c9
       have H1 : (if x19_1 < (l0.length : Int) then (welch_equations.l1 k1 l0 a2 a3 x8_1 x9_1 ((x19_1) % 256) (rd l0 x19_1) ([] : List Int) l1 (l1.length : Int) x19_1 a3 0) else (none)) = some (r1, r2) := by rw [if_pos rfl] at H; exact H
       clear H
       have H := H1
       clear H1
       by_cases c10 : x19_1 < (l0.length : Int)
       ·rw [if_pos c10] at H
        have c10b0 : decide (x19_1 < (l0.length : Int)) = true := decide_eq_true c10
        clear c10
        have H' := Aside0.mk H
        clear H
        have p156 : 0 ≤ (x19_1 : Int) := of_decide_eq_true (by first | (with_reducible assumption) | assumption)
        have q156 : x19_1 < (l1.length : Int) := of_decide_eq_true (by first | (with_reducible assumption) | assumption)
        obtain ⟨ad156, e156, hx156_0⟩ := Kd.at_bool HR1.out x19_1 p156 q156
        (try rw [← Nbq8.out] at hx156_0)
        cases e156
        replace hx156_0 := (HB.out.cell (World.block_lt_of_cell? w _ hx156_0)).trans hx156_0
        replace p156 := eq_true p156
        replace q156 := eq_true q156
        have p157 : 0 ≤ (x19_1 : Int) := of_decide_eq_true (by first | (with_reducible assumption) | assumption)
        have q157 : x19_1 < (l0.length : Int) := of_decide_eq_true (by first | (with_reducible assumption) | assumption)
        obtain ⟨ad157, e157, hx157_0⟩ := Kd.at_int HR0.out x19_1 p157 q157
        cases e157
        replace hx157_0 := (HB.out.cell (World.block_lt_of_cell? w _ hx157_0)).trans hx157_0
        replace p157 := eq_true p157
        replace q157 := eq_true q157
        go_wp2
        repeat (go_quiet (fail); try go_wp2)
        go_loopg [14, 33] k1 (fun kq v14 v33 w' => ∃ (x14_2 : List Int) (x33_2 : Int), v33 = .int .i64 x33_2 ∧ Aside0 (welch_equations.l1 kq l0 a2 a3 x8_1 x9_1 ((x19_1) % 256) (rd l0 x19_1) x14_2 l1 (l1.length : Int) x19_1 a3 x33_2 = some (r1, r2)) ∧ Aside0 (kq ≤ k1) ∧ Aside0 (Kd.S (Kd.slice 5 (Kd.int .u8)) 22 w' w.heap.size (fun k_ => some k_ ≠ (u9 : Value).ownBlock ∧ some k_ ≠ (v14 : Value).ownBlock) u8 x8_1) ∧ Aside0 (Kd.R (Kd.int .u8) 5 w' w.heap.size (fun k_ => some k_ ≠ (v14 : Value).ownBlock) u9 x9_1) ∧ Aside0 (Kd.R (Kd.int .u8) 5 w' w.heap.size (fun k_ => some k_ ≠ (u9 : Value).ownBlock) v14 x14_2) ∧ Aside0 (Below w.heap.size w w'))
        case atStart => exact ⟨(([] : List Int)), (0), (by first | rfl | (simp; done) | (simp [*]; done)), H', ⟨Nat.le_refl _⟩, ⟨by (with_reducible repeat (first | apply Kd.S_alloc | apply Kd.S_drewN | apply Kd.S_drew)); exact Kd.S_mono HO_8.out (fun _ hk => ⟨hk, (by simp [Value.ownBlock])⟩)⟩, ⟨by (with_reducible repeat (first | apply Kd.R_alloc | apply Kd.R_drewN | apply Kd.R_drew)); exact Kd.R_mono HO_9.out (fun _ hk => (by simp [Value.ownBlock]))⟩, ⟨by first | exact Kd.R_nil _ _ _ _ _ | exact Kd.N_nil _ _ _ _ _ | exact Kd.V_nil _ _ _ _ _ | exact Kd.Q_nil _ _ _ _ _ | exact Kd.S_nil _ _ _ _ _⟩, ⟨by repeat (first | (with_reducible first | exact HB.out | apply below_alloc | apply pw_below_drewN | apply below_drew1) | exact HB.out)⟩⟩
        case round =>
         clear H'
         try clear c1
         try clear p1
         try clear q1
         try clear hx1
         try clear c2
         try clear p2
         try clear c5
         try clear c5b0
         try clear c6
         try clear c6b0
         try clear p6
         try clear c7
         try clear c7b0
         try clear q8
         try clear c9
         try clear c10
         try clear c10b0
         try clear hx156_0
         try clear hx157_0
         try clear p156
         try clear p157
         try clear p2
         try clear q156
         try clear q157
         obtain ⟨x14_2, x33_2, rfl, HA, HK2, HO_8, HO_9, HO_14, HB⟩ := hrel
         cases gk with
         | zero => exact absurd HA.out (by simp [welch_equations.l1])
         | succ k2 =>
          have H := HA.out
          clear HA
          simp only [welch_equations.l1] at H
          by_cases c11 : x33_2 < a3
          ·rw [if_pos c11] at H
           have c11b0 : decide (x33_2 < a3) = true := decide_eq_true c11
           clear c11
           replace H := Option.bind_eq_some_iff.mp H
           obtain ⟨t158, A120, H⟩ := H
           replace H : ((gf_Mul.f k2 (rd l0 x19_1) t158).bind fun t159 => (if x14_2.length < 140737488355328 then (welch_equations.l1 k2 l0 a2 a3 x8_1 x9_1 ((x19_1) % 256) (rd l0 x19_1) (x14_2 ++ [t159]) l1 (l1.length : Int) x19_1 a3 (wrap64 (x33_2 + 1))) else (none))) = some (r1, r2) := H
           have A12 := Aside0.mk A120
           clear A120
           replace H := Option.bind_eq_some_iff.mp H
           obtain ⟨t159, A130, H⟩ := H
           replace H : (if x14_2.length < 140737488355328 then (welch_equations.l1 k2 l0 a2 a3 x8_1 x9_1 ((x19_1) % 256) (rd l0 x19_1) (x14_2 ++ [t159]) l1 (l1.length : Int) x19_1 a3 (wrap64 (x33_2 + 1))) else (none)) = some (r1, r2) := H
           have A13 := Aside0.mk A130
           clear A130
           by_cases c14 : x14_2.length < 140737488355328
           ·rw [if_pos c14] at H
            have LMc14 := Aside0.mk c14
            clear c14
            obtain ⟨y160, hy160⟩ : ∃ y_ : List Int, y_ = (x14_2 ++ [t159]) := ⟨_, rfl⟩
            replace H : (welch_equations.l1 k2 l0 a2 a3 x8_1 x9_1 ((x19_1) % 256) (rd l0 x19_1) y160 l1 (l1.length : Int) x19_1 a3 (wrap64 (x33_2 + 1))) = some (r1, r2) := by first | (rw [hy160]; with_reducible exact H) | (have H2_ := (Option.bind_some _ _).symm.trans H; rw [hy160]; with_reducible exact H2_) | (have H2_ := (Option.bind_some _ _).symm.trans H; with_reducible exact H2_) | with_reducible exact H | (rw [hy160]; exact H) | exact H
            have Ny160 := Aside0.mk hy160
            clear hy160
            have H' := Aside0.mk H
            clear H
            go_wp2_with (first | (go_at_call 36; (with_reducible refine (gf_Pow.calls k2 ((x19_1) % 256) x33_2 t158 _ A12.out).mono ?_); rintro e w' ⟨rfl, ⟨nd, rfl⟩⟩; (try first | exact ⟨rfl, _, World.drewN_drewN _ _ _⟩ | exact ⟨rfl, _, Eq.trans (World.drewN_drewN _ _ _) (congrArg (World.drewN _) (Nat.add_assoc _ _ _))⟩)) | (go_at_call 35; (with_reducible refine (gf_Mul.calls k2 (rd l0 x19_1) t158 t159 _ A13.out).mono ?_); rintro e w' ⟨rfl, ⟨nd, rfl⟩⟩; (try first | exact ⟨rfl, _, World.drewN_drewN _ _ _⟩ | exact ⟨rfl, _, Eq.trans (World.drewN_drewN _ _ _) (congrArg (World.drewN _) (Nat.add_assoc _ _ _))⟩)) | ((with_reducible refine gate_builtin (b := .append) (xs := #[.tmp 36, .tmp 42]) rfl ?_); at_builtin; refine Kd.R_append (Kd.int .u8) (w0 := w) w.heap.size rfl (.tmp 36) (.tmp 42) 22 5 (.int .u8 0) 1 rfl Try.underlying22 info5 rfl (by decide) (by omega) u14 x14_2 t159 [.int .u8 t159] (fun k_ => some k_ ≠ (u9 : Value).ownBlock) (fun _ => False) rfl rfl ?aP (fun _ hk => hk.elim) ?aF ?aO ?aB ?aS ?aL ?_; (case aP => exact rfl); (case aB => exact (by repeat (first | (with_reducible first | exact HB.out | apply below_alloc | apply pw_below_drewN | apply below_drew1) | exact HB.out))); (case aF => exact (fun k_ hk => Kd.fresh' (Kd.R_lt (by (with_reducible repeat (first | apply Kd.R_alloc | apply Kd.R_drewN | apply Kd.R_drew)); exact HO_9.out)) k_ hk)); (case aO => exact (by (with_reducible repeat (first | apply Kd.R_alloc | apply Kd.R_drewN | apply Kd.R_drew)); exact HO_14.out)); (case aS => exact (below_size (by repeat (first | (with_reducible first | exact HB.out | apply below_alloc | apply pw_below_drewN | apply below_drew1) | exact HB.out)))); (case aL => have := LMc14.out; omega); intro v161 w15 ho hb hg hat; rw [← Ny160.out] at ho; have n0_ := Aside0.mk (Kd.S_after (ok := (fun k_ => some k_ ≠ (u9 : Value).ownBlock)) (by (with_reducible repeat (first | apply Kd.S_alloc | apply Kd.S_drewN | apply Kd.S_drew)); exact HO_8.out) hg hat); have n1_ := Aside0.mk (Kd.R_after (ok := (fun _ => True)) (by (with_reducible repeat (first | apply Kd.R_alloc | apply Kd.R_drewN | apply Kd.R_drew)); exact Kd.R_mono HO_9.out (fun _ hk => ⟨trivial, hk⟩)) hg hat); have n2_ := Aside0.mk (hb); have n3_ := Aside0.mk (ho); clear HO_8; clear HO_9; clear HB; clear HO_14; have HO_8 := n0_; have HO_9 := n1_; have HB := n2_; have HO162 := n3_; clear n0_ n1_ n2_ n3_; clear ho hb hg hat))
            repeat (go_quiet (first | (go_at_call 36; (with_reducible refine (gf_Pow.calls k2 ((x19_1) % 256) x33_2 t158 _ A12.out).mono ?_); rintro e w' ⟨rfl, ⟨nd, rfl⟩⟩; (try first | exact ⟨rfl, _, World.drewN_drewN _ _ _⟩ | exact ⟨rfl, _, Eq.trans (World.drewN_drewN _ _ _) (congrArg (World.drewN _) (Nat.add_assoc _ _ _))⟩)) | (go_at_call 35; (with_reducible refine (gf_Mul.calls k2 (rd l0 x19_1) t158 t159 _ A13.out).mono ?_); rintro e w' ⟨rfl, ⟨nd, rfl⟩⟩; (try first | exact ⟨rfl, _, World.drewN_drewN _ _ _⟩ | exact ⟨rfl, _, Eq.trans (World.drewN_drewN _ _ _) (congrArg (World.drewN _) (Nat.add_assoc _ _ _))⟩)) | ((with_reducible refine gate_builtin (b := .append) (xs := #[.tmp 36, .tmp 42]) rfl ?_); at_builtin; refine Kd.R_append (Kd.int .u8) (w0 := w) w.heap.size rfl (.tmp 36) (.tmp 42) 22 5 (.int .u8 0) 1 rfl Try.underlying22 info5 rfl (by decide) (by omega) u14 x14_2 t159 [.int .u8 t159] (fun k_ => some k_ ≠ (u9 : Value).ownBlock) (fun _ => False) rfl rfl ?aP (fun _ hk => hk.elim) ?aF ?aO ?aB ?aS ?aL ?_; (case aP => exact rfl); (case aB => exact (by repeat (first | (with_reducible first | exact HB.out | apply below_alloc | apply pw_below_drewN | apply below_drew1) | exact HB.out))); (case aF => exact (fun k_ hk => Kd.fresh' (Kd.R_lt (by (with_reducible repeat (first | apply Kd.R_alloc | apply Kd.R_drewN | apply Kd.R_drew)); exact HO_9.out)) k_ hk)); (case aO => exact (by (with_reducible repeat (first | apply Kd.R_alloc | apply Kd.R_drewN | apply Kd.R_drew)); exact HO_14.out)); (case aS => exact (below_size (by repeat (first | (with_reducible first | exact HB.out | apply below_alloc | apply pw_below_drewN | apply below_drew1) | exact HB.out)))); (case aL => have := LMc14.out; omega); intro v161 w15 ho hb hg hat; rw [← Ny160.out] at ho; have n0_ := Aside0.mk (Kd.S_after (ok := (fun k_ => some k_ ≠ (u9 : Value).ownBlock)) (by (with_reducible repeat (first | apply Kd.S_alloc | apply Kd.S_drewN | apply Kd.S_drew)); exact HO_8.out) hg hat); have n1_ := Aside0.mk (Kd.R_after (ok := (fun _ => True)) (by (with_reducible repeat (first | apply Kd.R_alloc | apply Kd.R_drewN | apply Kd.R_drew)); exact Kd.R_mono HO_9.out (fun _ hk => ⟨trivial, hk⟩)) hg hat); have n2_ := Aside0.mk (hb); have n3_ := Aside0.mk (ho); clear HO_8; clear HO_9; clear HB; clear HO_14; have HO_8 := n0_; have HO_9 := n1_; have HB := n2_; have HO162 := n3_; clear n0_ n1_ n2_ n3_; clear ho hb hg hat)); try go_wp2_with (first | (go_at_call 36; (with_reducible refine (gf_Pow.calls k2 ((x19_1) % 256) x33_2 t158 _ A12.out).mono ?_); rintro e w' ⟨rfl, ⟨nd, rfl⟩⟩; (try first | exact ⟨rfl, _, World.drewN_drewN _ _ _⟩ | exact ⟨rfl, _, Eq.trans (World.drewN_drewN _ _ _) (congrArg (World.drewN _) (Nat.add_assoc _ _ _))⟩)) | (go_at_call 35; (with_reducible refine (gf_Mul.calls k2 (rd l0 x19_1) t158 t159 _ A13.out).mono ?_); rintro e w' ⟨rfl, ⟨nd, rfl⟩⟩; (try first | exact ⟨rfl, _, World.drewN_drewN _ _ _⟩ | exact ⟨rfl, _, Eq.trans (World.drewN_drewN _ _ _) (congrArg (World.drewN _) (Nat.add_assoc _ _ _))⟩)) | ((with_reducible refine gate_builtin (b := .append) (xs := #[.tmp 36, .tmp 42]) rfl ?_); at_builtin; refine Kd.R_append (Kd.int .u8) (w0 := w) w.heap.size rfl (.tmp 36) (.tmp 42) 22 5 (.int .u8 0) 1 rfl Try.underlying22 info5 rfl (by decide) (by omega) u14 x14_2 t159 [.int .u8 t159] (fun k_ => some k_ ≠ (u9 : Value).ownBlock) (fun _ => False) rfl rfl ?aP (fun _ hk => hk.elim) ?aF ?aO ?aB ?aS ?aL ?_; (case aP => exact rfl); (case aB => exact (by repeat (first | (with_reducible first | exact HB.out | apply below_alloc | apply pw_below_drewN | apply below_drew1) | exact HB.out))); (case aF => exact (fun k_ hk => Kd.fresh' (Kd.R_lt (by (with_reducible repeat (first | apply Kd.R_alloc | apply Kd.R_drewN | apply Kd.R_drew)); exact HO_9.out)) k_ hk)); (case aO => exact (by (with_reducible repeat (first | apply Kd.R_alloc | apply Kd.R_drewN | apply Kd.R_drew)); exact HO_14.out)); (case aS => exact (below_size (by repeat (first | (with_reducible first | exact HB.out | apply below_alloc | apply pw_below_drewN | apply below_drew1) | exact HB.out)))); (case aL => have := LMc14.out; omega); intro v161 w15 ho hb hg hat; rw [← Ny160.out] at ho; have n0_ := Aside0.mk (Kd.S_after (ok := (fun k_ => some k_ ≠ (u9 : Value).ownBlock)) (by (with_reducible repeat (first | apply Kd.S_alloc | apply Kd.S_drewN | apply Kd.S_drew)); exact HO_8.out) hg hat); have n1_ := Aside0.mk (Kd.R_after (ok := (fun _ => True)) (by (with_reducible repeat (first | apply Kd.R_alloc | apply Kd.R_drewN | apply Kd.R_drew)); exact Kd.R_mono HO_9.out (fun _ hk => ⟨trivial, hk⟩)) hg hat); have n2_ := Aside0.mk (hb); have n3_ := Aside0.mk (ho); clear HO_8; clear HO_9; clear HB; clear HO_14; have HO_8 := n0_; have HO_9 := n1_; have HB := n2_; have HO162 := n3_; clear n0_ n1_ n2_ n3_; clear ho hb hg hat)))
            go_roundg k2
            case measure => have := HK1.out; have := HK2.out; omega
            case rel => exact ⟨(y160), (wrap64 (x33_2 + 1)), (by first | rfl | (simp; done) | (simp [*]; done)), H', ⟨by have := HK1.out; have := HK2.out; omega⟩, ⟨by (with_reducible repeat (first | apply Kd.S_alloc | apply Kd.S_drewN | apply Kd.S_drew)); exact HO_8.out⟩, ⟨by (with_reducible repeat (first | apply Kd.R_alloc | apply Kd.R_drewN | apply Kd.R_drew)); exact Kd.R_mono HO_9.out (fun _ hk => hk.2)⟩, ⟨by (with_reducible repeat (first | apply Kd.R_alloc | apply Kd.R_drewN | apply Kd.R_drew)); exact HO162.out⟩, ⟨by repeat (first | (with_reducible first | exact HB.out | apply below_alloc | apply pw_below_drewN | apply below_drew1) | exact HB.out)⟩⟩
           ·rw [if_neg c14] at H
            exact absurd H (by simp)
          ·rw [if_neg c11] at H
           have c11b0 : decide (x33_2 < a3) = false := decide_eq_false c11
           clear c11
           have H' := Aside0.mk H
           clear H
           go_wp2
           repeat (go_quiet (fail); try go_wp2)
           go_loopg [14, 48] k2 (fun kq v14 v48 w' => ∃ (x14_3 : List Int) (x48_3 : Int), v48 = .int .i64 x48_3 ∧ Aside0 (welch_equations.l2 kq l0 a2 a3 x8_1 x9_1 ((x19_1) % 256) (rd l0 x19_1) x14_3 l1 (l1.length : Int) x19_1 (wrap64 (a2 + a3)) x48_3 = some (r1, r2)) ∧ Aside0 (kq ≤ k2) ∧ Aside0 (Kd.S (Kd.slice 5 (Kd.int .u8)) 22 w' w.heap.size (fun k_ => some k_ ≠ (u9 : Value).ownBlock ∧ some k_ ≠ (v14 : Value).ownBlock) u8 x8_1) ∧ Aside0 (Kd.R (Kd.int .u8) 5 w' w.heap.size (fun k_ => some k_ ≠ (v14 : Value).ownBlock) u9 x9_1) ∧ Aside0 (Kd.R (Kd.int .u8) 5 w' w.heap.size (fun k_ => some k_ ≠ (u9 : Value).ownBlock) v14 x14_3) ∧ Aside0 (Below w.heap.size w w'))
           case atStart => exact ⟨(x14_2), (0), (by first | rfl | (simp; done) | (simp [*]; done)), H', ⟨Nat.le_refl _⟩, ⟨by (with_reducible repeat (first | apply Kd.S_alloc | apply Kd.S_drewN | apply Kd.S_drew)); exact HO_8.out⟩, ⟨by (with_reducible repeat (first | apply Kd.R_alloc | apply Kd.R_drewN | apply Kd.R_drew)); exact HO_9.out⟩, ⟨by (with_reducible repeat (first | apply Kd.R_alloc | apply Kd.R_drewN | apply Kd.R_drew)); exact HO_14.out⟩, ⟨by repeat (first | (with_reducible first | exact HB.out | apply below_alloc | apply pw_below_drewN | apply below_drew1) | exact HB.out)⟩⟩
           case round =>
            clear H'
            try clear c1
            try clear p1
            try clear q1
            try clear hx1
            try clear c2
            try clear p2
            try clear c5
            try clear c5b0
            try clear c6
            try clear c6b0
            try clear p6
            try clear c7
            try clear c7b0
            try clear q8
            try clear c9
            try clear c10
            try clear c10b0
            try clear c11
            try clear c11b0
            try clear c14
            try clear p15
            try clear q15
            try clear hx15
            try clear hx156_0
            try clear hx157_0
            try clear p1
            try clear p156
            try clear p157
            try clear p2
            try clear p6
            try clear q1
            try clear q156
            try clear q157
            try clear q8
            obtain ⟨x14_3, x48_3, rfl, HA, HK3, HO_8, HO_9, HO_14, HB⟩ := hrel
            cases gk with
            | zero => exact absurd HA.out (by simp [welch_equations.l2])
            | succ k3 =>
             have H := HA.out
             clear HA
             simp only [welch_equations.l2] at H
             by_cases c16 : x48_3 < (wrap64 (a2 + a3))
             ·rw [if_pos c16] at H
              have c16b0 : decide (x48_3 < (wrap64 (a2 + a3))) = true := decide_eq_true c16
              clear c16
              replace H := Option.bind_eq_some_iff.mp H
              obtain ⟨t163, A170, H⟩ := H
              replace H : (if x14_3.length < 140737488355328 then (welch_equations.l2 k3 l0 a2 a3 x8_1 x9_1 ((x19_1) % 256) (rd l0 x19_1) (x14_3 ++ [t163]) l1 (l1.length : Int) x19_1 (wrap64 (a2 + a3)) (wrap64 (x48_3 + 1))) else (none)) = some (r1, r2) := H
              have A17 := Aside0.mk A170
              clear A170
              by_cases c18 : x14_3.length < 140737488355328
              ·rw [if_pos c18] at H
               have LMc18 := Aside0.mk c18
               clear c18
               obtain ⟨y164, hy164⟩ : ∃ y_ : List Int, y_ = (x14_3 ++ [t163]) := ⟨_, rfl⟩
               replace H : (welch_equations.l2 k3 l0 a2 a3 x8_1 x9_1 ((x19_1) % 256) (rd l0 x19_1) y164 l1 (l1.length : Int) x19_1 (wrap64 (a2 + a3)) (wrap64 (x48_3 + 1))) = some (r1, r2) := by first | (rw [hy164]; with_reducible exact H) | (have H2_ := (Option.bind_some _ _).symm.trans H; rw [hy164]; with_reducible exact H2_) | (have H2_ := (Option.bind_some _ _).symm.trans H; with_reducible exact H2_) | with_reducible exact H | (rw [hy164]; exact H) | exact H
               have Ny164 := Aside0.mk hy164
               clear hy164
               have H' := Aside0.mk H
               clear H
               go_wp2_with (first | (go_at_call 36; (with_reducible refine (gf_Pow.calls k3 ((x19_1) % 256) x48_3 t163 _ A17.out).mono ?_); rintro e w' ⟨rfl, ⟨nd, rfl⟩⟩; (try first | exact ⟨rfl, _, World.drewN_drewN _ _ _⟩ | exact ⟨rfl, _, Eq.trans (World.drewN_drewN _ _ _) (congrArg (World.drewN _) (Nat.add_assoc _ _ _))⟩)) | ((with_reducible refine gate_builtin (b := .append) (xs := #[.tmp 51, .tmp 55]) rfl ?_); at_builtin; refine Kd.R_append (Kd.int .u8) (w0 := w) w.heap.size rfl (.tmp 51) (.tmp 55) 22 5 (.int .u8 0) 1 rfl Try.underlying22 info5 rfl (by decide) (by omega) u14 x14_3 t163 [.int .u8 t163] (fun k_ => some k_ ≠ (u9 : Value).ownBlock) (fun _ => False) rfl rfl ?aP (fun _ hk => hk.elim) ?aF ?aO ?aB ?aS ?aL ?_; (case aP => exact rfl); (case aB => exact (by repeat (first | (with_reducible first | exact HB.out | apply below_alloc | apply pw_below_drewN | apply below_drew1) | exact HB.out))); (case aF => exact (fun k_ hk => Kd.fresh' (Kd.R_lt (by (with_reducible repeat (first | apply Kd.R_alloc | apply Kd.R_drewN | apply Kd.R_drew)); exact HO_9.out)) k_ hk)); (case aO => exact (by (with_reducible repeat (first | apply Kd.R_alloc | apply Kd.R_drewN | apply Kd.R_drew)); exact HO_14.out)); (case aS => exact (below_size (by repeat (first | (with_reducible first | exact HB.out | apply below_alloc | apply pw_below_drewN | apply below_drew1) | exact HB.out)))); (case aL => have := LMc18.out; omega); intro v165 w19 ho hb hg hat; rw [← Ny164.out] at ho; have n0_ := Aside0.mk (Kd.S_after (ok := (fun k_ => some k_ ≠ (u9 : Value).ownBlock)) (by (with_reducible repeat (first | apply Kd.S_alloc | apply Kd.S_drewN | apply Kd.S_drew)); exact HO_8.out) hg hat); have n1_ := Aside0.mk (Kd.R_after (ok := (fun _ => True)) (by (with_reducible repeat (first | apply Kd.R_alloc | apply Kd.R_drewN | apply Kd.R_drew)); exact Kd.R_mono HO_9.out (fun _ hk => ⟨trivial, hk⟩)) hg hat); have n2_ := Aside0.mk (hb); have n3_ := Aside0.mk (ho); clear HO_8; clear HO_9; clear HB; clear HO_14; have HO_8 := n0_; have HO_9 := n1_; have HB := n2_; have HO166 := n3_; clear n0_ n1_ n2_ n3_; clear ho hb hg hat))
               repeat (go_quiet (first | (go_at_call 36; (with_reducible refine (gf_Pow.calls k3 ((x19_1) % 256) x48_3 t163 _ A17.out).mono ?_); rintro e w' ⟨rfl, ⟨nd, rfl⟩⟩; (try first | exact ⟨rfl, _, World.drewN_drewN _ _ _⟩ | exact ⟨rfl, _, Eq.trans (World.drewN_drewN _ _ _) (congrArg (World.drewN _) (Nat.add_assoc _ _ _))⟩)) | ((with_reducible refine gate_builtin (b := .append) (xs := #[.tmp 51, .tmp 55]) rfl ?_); at_builtin; refine Kd.R_append (Kd.int .u8) (w0 := w) w.heap.size rfl (.tmp 51) (.tmp 55) 22 5 (.int .u8 0) 1 rfl Try.underlying22 info5 rfl (by decide) (by omega) u14 x14_3 t163 [.int .u8 t163] (fun k_ => some k_ ≠ (u9 : Value).ownBlock) (fun _ => False) rfl rfl ?aP (fun _ hk => hk.elim) ?aF ?aO ?aB ?aS ?aL ?_; (case aP => exact rfl); (case aB => exact (by repeat (first | (with_reducible first | exact HB.out | apply below_alloc | apply pw_below_drewN | apply below_drew1) | exact HB.out))); (case aF => exact (fun k_ hk => Kd.fresh' (Kd.R_lt (by (with_reducible repeat (first | apply Kd.R_alloc | apply Kd.R_drewN | apply Kd.R_drew)); exact HO_9.out)) k_ hk)); (case aO => exact (by (with_reducible repeat (first | apply Kd.R_alloc | apply Kd.R_drewN | apply Kd.R_drew)); exact HO_14.out)); (case aS => exact (below_size (by repeat (first | (with_reducible first | exact HB.out | apply below_alloc | apply pw_below_drewN | apply below_drew1) | exact HB.out)))); (case aL => have := LMc18.out; omega); intro v165 w19 ho hb hg hat; rw [← Ny164.out] at ho; have n0_ := Aside0.mk (Kd.S_after (ok := (fun k_ => some k_ ≠ (u9 : Value).ownBlock)) (by (with_reducible repeat (first | apply Kd.S_alloc | apply Kd.S_drewN | apply Kd.S_drew)); exact HO_8.out) hg hat); have n1_ := Aside0.mk (Kd.R_after (ok := (fun _ => True)) (by (with_reducible repeat (first | apply Kd.R_alloc | apply Kd.R_drewN | apply Kd.R_drew)); exact Kd.R_mono HO_9.out (fun _ hk => ⟨trivial, hk⟩)) hg hat); have n2_ := Aside0.mk (hb); have n3_ := Aside0.mk (ho); clear HO_8; clear HO_9; clear HB; clear HO_14; have HO_8 := n0_; have HO_9 := n1_; have HB := n2_; have HO166 := n3_; clear n0_ n1_ n2_ n3_; clear ho hb hg hat)); try go_wp2_with (first | (go_at_call 36; (with_reducible refine (gf_Pow.calls k3 ((x19_1) % 256) x48_3 t163 _ A17.out).mono ?_); rintro e w' ⟨rfl, ⟨nd, rfl⟩⟩; (try first | exact ⟨rfl, _, World.drewN_drewN _ _ _⟩ | exact ⟨rfl, _, Eq.trans (World.drewN_drewN _ _ _) (congrArg (World.drewN _) (Nat.add_assoc _ _ _))⟩)) | ((with_reducible refine gate_builtin (b := .append) (xs := #[.tmp 51, .tmp 55]) rfl ?_); at_builtin; refine Kd.R_append (Kd.int .u8) (w0 := w) w.heap.size rfl (.tmp 51) (.tmp 55) 22 5 (.int .u8 0) 1 rfl Try.underlying22 info5 rfl (by decide) (by omega) u14 x14_3 t163 [.int .u8 t163] (fun k_ => some k_ ≠ (u9 : Value).ownBlock) (fun _ => False) rfl rfl ?aP (fun _ hk => hk.elim) ?aF ?aO ?aB ?aS ?aL ?_; (case aP => exact rfl); (case aB => exact (by repeat (first | (with_reducible first | exact HB.out | apply below_alloc | apply pw_below_drewN | apply below_drew1) | exact HB.out))); (case aF => exact (fun k_ hk => Kd.fresh' (Kd.R_lt (by (with_reducible repeat (first | apply Kd.R_alloc | apply Kd.R_drewN | apply Kd.R_drew)); exact HO_9.out)) k_ hk)); (case aO => exact (by (with_reducible repeat (first | apply Kd.R_alloc | apply Kd.R_drewN | apply Kd.R_drew)); exact HO_14.out)); (case aS => exact (below_size (by repeat (first | (with_reducible first | exact HB.out | apply below_alloc | apply pw_below_drewN | apply below_drew1) | exact HB.out)))); (case aL => have := LMc18.out; omega); intro v165 w19 ho hb hg hat; rw [← Ny164.out] at ho; have n0_ := Aside0.mk (Kd.S_after (ok := (fun k_ => some k_ ≠ (u9 : Value).ownBlock)) (by (with_reducible repeat (first | apply Kd.S_alloc | apply Kd.S_drewN | apply Kd.S_drew)); exact HO_8.out) hg hat); have n1_ := Aside0.mk (Kd.R_after (ok := (fun _ => True)) (by (with_reducible repeat (first | apply Kd.R_alloc | apply Kd.R_drewN | apply Kd.R_drew)); exact Kd.R_mono HO_9.out (fun _ hk => ⟨trivial, hk⟩)) hg hat); have n2_ := Aside0.mk (hb); have n3_ := Aside0.mk (ho); clear HO_8; clear HO_9; clear HB; clear HO_14; have HO_8 := n0_; have HO_9 := n1_; have HB := n2_; have HO166 := n3_; clear n0_ n1_ n2_ n3_; clear ho hb hg hat)))
               go_roundg k3
               case measure => have := HK1.out; have := HK2.out; have := HK3.out; omega
               case rel => exact ⟨(y164), (wrap64 (x48_3 + 1)), (by first | rfl | (simp; done) | (simp [*]; done)), H', ⟨by have := HK1.out; have := HK2.out; have := HK3.out; omega⟩, ⟨by (with_reducible repeat (first | apply Kd.S_alloc | apply Kd.S_drewN | apply Kd.S_drew)); exact HO_8.out⟩, ⟨by (with_reducible repeat (first | apply Kd.R_alloc | apply Kd.R_drewN | apply Kd.R_drew)); exact Kd.R_mono HO_9.out (fun _ hk => hk.2)⟩, ⟨by (with_reducible repeat (first | apply Kd.R_alloc | apply Kd.R_drewN | apply Kd.R_drew)); exact HO166.out⟩, ⟨by repeat (first | (with_reducible first | exact HB.out | apply below_alloc | apply pw_below_drewN | apply below_drew1) | exact HB.out)⟩⟩
              ·rw [if_neg c18] at H
               exact absurd H (by simp)
             ·rw [if_neg c16] at H
              have c16b0 : decide (x48_3 < (wrap64 (a2 + a3))) = false := decide_eq_false c16
              clear c16
              by_cases c20 : x8_1.length < 5864062014805
              ·rw [if_pos c20] at H
               have LMc20 := Aside0.mk c20
               clear c20
               obtain ⟨y167, hy167⟩ : ∃ y_ : List (List Int), y_ = (x8_1 ++ [x14_3]) := ⟨_, rfl⟩
               replace H : ((gf_Pow.f k3 ((x19_1) % 256) a3).bind fun t170 => ((gf_Mul.f k3 (rd l0 x19_1) t170).bind fun t171 => (if x9_1.length < 140737488355328 then (welch_equations.l0 k3 l0 a2 a3 y167 (x9_1 ++ [t171]) l1 (l1.length : Int) (wrap64 (x19_1 + 1))) else (none)))) = some (r1, r2) := by first | (rw [hy167]; with_reducible exact H) | (have H2_ := (Option.bind_some _ _).symm.trans H; rw [hy167]; with_reducible exact H2_) | (have H2_ := (Option.bind_some _ _).symm.trans H; with_reducible exact H2_) | with_reducible exact H | (rw [hy167]; exact H) | exact H
               have Ny167 := Aside0.mk hy167
               clear hy167
               replace H := Option.bind_eq_some_iff.mp H
               obtain ⟨t170, A210, H⟩ := H
               replace H : ((gf_Mul.f k3 (rd l0 x19_1) t170).bind fun t171 => (if x9_1.length < 140737488355328 then (welch_equations.l0 k3 l0 a2 a3 y167 (x9_1 ++ [t171]) l1 (l1.length : Int) (wrap64 (x19_1 + 1))) else (none))) = some (r1, r2) := H
               have A21 := Aside0.mk A210
               clear A210
               replace H := Option.bind_eq_some_iff.mp H
               obtain ⟨t171, A220, H⟩ := H
               replace H : (if x9_1.length < 140737488355328 then (welch_equations.l0 k3 l0 a2 a3 y167 (x9_1 ++ [t171]) l1 (l1.length : Int) (wrap64 (x19_1 + 1))) else (none)) = some (r1, r2) := H
               have A22 := Aside0.mk A220
               clear A220
               by_cases c23 : x9_1.length < 140737488355328
               ·rw [if_pos c23] at H
                have LMc23 := Aside0.mk c23
                clear c23
                obtain ⟨y172, hy172⟩ : ∃ y_ : List Int, y_ = (x9_1 ++ [t171]) := ⟨_, rfl⟩
                replace H : (welch_equations.l0 k3 l0 a2 a3 y167 y172 l1 (l1.length : Int) (wrap64 (x19_1 + 1))) = some (r1, r2) := by first | (rw [hy172]; with_reducible exact H) | (have H2_ := (Option.bind_some _ _).symm.trans H; rw [hy172]; with_reducible exact H2_) | (have H2_ := (Option.bind_some _ _).symm.trans H; with_reducible exact H2_) | with_reducible exact H | (rw [hy172]; exact H) | exact H
                have Ny172 := Aside0.mk hy172
                clear hy172
                have H' := Aside0.mk H
                clear H
                obtain ⟨Ao25, co25, eo25⟩ := Kd.R_slice HO_14.out
                subst eo25
                go_wp2_with (first | ((with_reducible refine gate_builtin (b := .append) (xs := #[.tmp 58, .tmp 60]) rfl ?_); at_builtin; refine Kd.S_append (Kd.slice 5 (Kd.int .u8)) (w0 := w) w.heap.size rfl (.tmp 58) (.tmp 60) 52 22 (.slice none 0 0) 24 rfl Try.underlying52 info22 rfl (by decide) (by omega) u8 x8_1 x14_3 [.slice Ao25 x14_3.length co25] (fun k_ => some k_ ≠ (u9 : Value).ownBlock) (fun k_ => some k_ = (.slice Ao25 x14_3.length co25 : Value).ownBlock) rfl rfl ?aP (fun k_ hk_ => ((Kd.R_mono (ok' := fun k_ => ((fun k_ => some k_ ≠ (u9 : Value).ownBlock)) k_ ∧ some k_ ≠ (u8 : Value).ownBlock) (Kd.R_apart' (HO_14.out) (Kd.S_typed HO_8.out) (by decide)) (fun k_ hk => ⟨hk.1, hk.2⟩))).1 k_ hk_.symm) ?aF ?aO ?aB ?aS ?aL ?_; (case aP => exact Kd.M_row (Kd.R_mono (Kd.R_tight rfl (Kd.R_mono (ok' := fun k_ => ((fun k_ => some k_ ≠ (u9 : Value).ownBlock)) k_ ∧ some k_ ≠ (u8 : Value).ownBlock) (Kd.R_apart' (HO_14.out) (Kd.S_typed HO_8.out) (by decide)) (fun k_ hk => ⟨hk.1, hk.2⟩))) (fun _ h_ => h_))); (case aB => exact (by repeat (first | (with_reducible first | exact HB.out | apply below_alloc | apply pw_below_drewN | apply below_drew1) | exact HB.out))); (case aF => exact (fun k_ hk => Kd.fresh' (Kd.R_lt (by (with_reducible repeat (first | apply Kd.R_alloc | apply Kd.R_drewN | apply Kd.R_drew)); exact HO_9.out)) k_ hk)); (case aO => exact (by (with_reducible repeat (first | apply Kd.S_alloc | apply Kd.S_drewN | apply Kd.S_drew)); exact Kd.S_mono HO_8.out (fun k_ hk => ⟨hk.1, fun e_ => hk.2 e_⟩))); (case aS => exact (below_size (by repeat (first | (with_reducible first | exact HB.out | apply below_alloc | apply pw_below_drewN | apply below_drew1) | exact HB.out)))); (case aL => have := LMc20.out; omega); intro v168 w24 ho hb hg hat; rw [← Ny167.out] at ho; have n0_ := Aside0.mk (Kd.R_over' (by (with_reducible repeat (first | apply Kd.R_alloc | apply Kd.R_drewN | apply Kd.R_drew)); exact HO_9.out) (Kd.S_typed (by (with_reducible repeat (first | apply Kd.S_alloc | apply Kd.S_drewN | apply Kd.S_drew)); exact HO_8.out)) (by decide) hg); have n1_ := Aside0.mk (hb); have n2_ := Aside0.mk (ho); clear HO_9; clear HB; clear HO_8; clear HO_14; have HO_9 := n0_; have HB := n1_; have HO169 := n2_; clear n0_ n1_ n2_; clear ho hb hg hat) | (go_at_call 36; (with_reducible refine (gf_Pow.calls k3 ((x19_1) % 256) a3 t170 _ A21.out).mono ?_); rintro e w' ⟨rfl, ⟨nd, rfl⟩⟩; (try first | exact ⟨rfl, _, World.drewN_drewN _ _ _⟩ | exact ⟨rfl, _, Eq.trans (World.drewN_drewN _ _ _) (congrArg (World.drewN _) (Nat.add_assoc _ _ _))⟩)) | (go_at_call 35; (with_reducible refine (gf_Mul.calls k3 (rd l0 x19_1) t170 t171 _ A22.out).mono ?_); rintro e w' ⟨rfl, ⟨nd, rfl⟩⟩; (try first | exact ⟨rfl, _, World.drewN_drewN _ _ _⟩ | exact ⟨rfl, _, Eq.trans (World.drewN_drewN _ _ _) (congrArg (World.drewN _) (Nat.add_assoc _ _ _))⟩)) | ((with_reducible refine gate_builtin (b := .append) (xs := #[.tmp 62, .tmp 68]) rfl ?_); at_builtin; refine Kd.R_append (Kd.int .u8) (w0 := w) w.heap.size rfl (.tmp 62) (.tmp 68) 22 5 (.int .u8 0) 1 rfl Try.underlying22 info5 rfl (by decide) (by omega) u9 x9_1 t171 [.int .u8 t171] (fun _ => True) (fun _ => False) rfl rfl ?aP (fun _ hk => hk.elim) ?aF ?aO ?aB ?aS ?aL ?_; (case aP => exact rfl); (case aB => exact (by repeat (first | (with_reducible first | exact HB.out | apply below_alloc | apply pw_below_drewN | apply below_drew1) | exact HB.out))); (case aF => exact (fun _ _ => trivial)); (case aO => exact (by (with_reducible repeat (first | apply Kd.R_alloc | apply Kd.R_drewN | apply Kd.R_drew)); exact Kd.R_mono HO_9.out (fun _ hk => trivial))); (case aS => exact (below_size (by repeat (first | (with_reducible first | exact HB.out | apply below_alloc | apply pw_below_drewN | apply below_drew1) | exact HB.out)))); (case aL => have := LMc23.out; omega); intro v173 w26 ho hb hg hat; rw [← Ny172.out] at ho; have n0_ := Aside0.mk (Kd.S_after (ok := (fun _ => True)) (by (with_reducible repeat (first | apply Kd.S_alloc | apply Kd.S_drewN | apply Kd.S_drew)); exact Kd.S_mono HO169.out (fun _ hk => ⟨trivial, hk⟩)) hg hat); have n1_ := Aside0.mk (hb); have n2_ := Aside0.mk (ho); clear HO169; clear HB; clear HO_9; have HO169 := n0_; have HB := n1_; have HO174 := n2_; clear n0_ n1_ n2_; clear ho hb hg hat))
                repeat (go_quiet (first | ((with_reducible refine gate_builtin (b := .append) (xs := #[.tmp 58, .tmp 60]) rfl ?_); at_builtin; refine Kd.S_append (Kd.slice 5 (Kd.int .u8)) (w0 := w) w.heap.size rfl (.tmp 58) (.tmp 60) 52 22 (.slice none 0 0) 24 rfl Try.underlying52 info22 rfl (by decide) (by omega) u8 x8_1 x14_3 [.slice Ao25 x14_3.length co25] (fun k_ => some k_ ≠ (u9 : Value).ownBlock) (fun k_ => some k_ = (.slice Ao25 x14_3.length co25 : Value).ownBlock) rfl rfl ?aP (fun k_ hk_ => ((Kd.R_mono (ok' := fun k_ => ((fun k_ => some k_ ≠ (u9 : Value).ownBlock)) k_ ∧ some k_ ≠ (u8 : Value).ownBlock) (Kd.R_apart' (HO_14.out) (Kd.S_typed HO_8.out) (by decide)) (fun k_ hk => ⟨hk.1, hk.2⟩))).1 k_ hk_.symm) ?aF ?aO ?aB ?aS ?aL ?_; (case aP => exact Kd.M_row (Kd.R_mono (Kd.R_tight rfl (Kd.R_mono (ok' := fun k_ => ((fun k_ => some k_ ≠ (u9 : Value).ownBlock)) k_ ∧ some k_ ≠ (u8 : Value).ownBlock) (Kd.R_apart' (HO_14.out) (Kd.S_typed HO_8.out) (by decide)) (fun k_ hk => ⟨hk.1, hk.2⟩))) (fun _ h_ => h_))); (case aB => exact (by repeat (first | (with_reducible first | exact HB.out | apply below_alloc | apply pw_below_drewN | apply below_drew1) | exact HB.out))); (case aF => exact (fun k_ hk => Kd.fresh' (Kd.R_lt (by (with_reducible repeat (first | apply Kd.R_alloc | apply Kd.R_drewN | apply Kd.R_drew)); exact HO_9.out)) k_ hk)); (case aO => exact (by (with_reducible repeat (first | apply Kd.S_alloc | apply Kd.S_drewN | apply Kd.S_drew)); exact Kd.S_mono HO_8.out (fun k_ hk => ⟨hk.1, fun e_ => hk.2 e_⟩))); (case aS => exact (below_size (by repeat (first | (with_reducible first | exact HB.out | apply below_alloc | apply pw_below_drewN | apply below_drew1) | exact HB.out)))); (case aL => have := LMc20.out; omega); intro v168 w24 ho hb hg hat; rw [← Ny167.out] at ho; have n0_ := Aside0.mk (Kd.R_over' (by (with_reducible repeat (first | apply Kd.R_alloc | apply Kd.R_drewN | apply Kd.R_drew)); exact HO_9.out) (Kd.S_typed (by (with_reducible repeat (first | apply Kd.S_alloc | apply Kd.S_drewN | apply Kd.S_drew)); exact HO_8.out)) (by decide) hg); have n1_ := Aside0.mk (hb); have n2_ := Aside0.mk (ho); clear HO_9; clear HB; clear HO_8; clear HO_14; have HO_9 := n0_; have HB := n1_; have HO169 := n2_; clear n0_ n1_ n2_; clear ho hb hg hat) | (go_at_call 36; (with_reducible refine (gf_Pow.calls k3 ((x19_1) % 256) a3 t170 _ A21.out).mono ?_); rintro e w' ⟨rfl, ⟨nd, rfl⟩⟩; (try first | exact ⟨rfl, _, World.drewN_drewN _ _ _⟩ | exact ⟨rfl, _, Eq.trans (World.drewN_drewN _ _ _) (congrArg (World.drewN _) (Nat.add_assoc _ _ _))⟩)) | (go_at_call 35; (with_reducible refine (gf_Mul.calls k3 (rd l0 x19_1) t170 t171 _ A22.out).mono ?_); rintro e w' ⟨rfl, ⟨nd, rfl⟩⟩; (try first | exact ⟨rfl, _, World.drewN_drewN _ _ _⟩ | exact ⟨rfl, _, Eq.trans (World.drewN_drewN _ _ _) (congrArg (World.drewN _) (Nat.add_assoc _ _ _))⟩)) | ((with_reducible refine gate_builtin (b := .append) (xs := #[.tmp 62, .tmp 68]) rfl ?_); at_builtin; refine Kd.R_append (Kd.int .u8) (w0 := w) w.heap.size rfl (.tmp 62) (.tmp 68) 22 5 (.int .u8 0) 1 rfl Try.underlying22 info5 rfl (by decide) (by omega) u9 x9_1 t171 [.int .u8 t171] (fun _ => True) (fun _ => False) rfl rfl ?aP (fun _ hk => hk.elim) ?aF ?aO ?aB ?aS ?aL ?_; (case aP => exact rfl); (case aB => exact (by repeat (first | (with_reducible first | exact HB.out | apply below_alloc | apply pw_below_drewN | apply below_drew1) | exact HB.out))); (case aF => exact (fun _ _ => trivial)); (case aO => exact (by (with_reducible repeat (first | apply Kd.R_alloc | apply Kd.R_drewN | apply Kd.R_drew)); exact Kd.R_mono HO_9.out (fun _ hk => trivial))); (case aS => exact (below_size (by repeat (first | (with_reducible first | exact HB.out | apply below_alloc | apply pw_below_drewN | apply below_drew1) | exact HB.out)))); (case aL => have := LMc23.out; omega); intro v173 w26 ho hb hg hat; rw [← Ny172.out] at ho; have n0_ := Aside0.mk (Kd.S_after (ok := (fun _ => True)) (by (with_reducible repeat (first | apply Kd.S_alloc | apply Kd.S_drewN | apply Kd.S_drew)); exact Kd.S_mono HO169.out (fun _ hk => ⟨trivial, hk⟩)) hg hat); have n1_ := Aside0.mk (hb); have n2_ := Aside0.mk (ho); clear HO169; clear HB; clear HO_9; have HO169 := n0_; have HB := n1_; have HO174 := n2_; clear n0_ n1_ n2_; clear ho hb hg hat)); try go_wp2_with (first | ((with_reducible refine gate_builtin (b := .append) (xs := #[.tmp 58, .tmp 60]) rfl ?_); at_builtin; refine Kd.S_append (Kd.slice 5 (Kd.int .u8)) (w0 := w) w.heap.size rfl (.tmp 58) (.tmp 60) 52 22 (.slice none 0 0) 24 rfl Try.underlying52 info22 rfl (by decide) (by omega) u8 x8_1 x14_3 [.slice Ao25 x14_3.length co25] (fun k_ => some k_ ≠ (u9 : Value).ownBlock) (fun k_ => some k_ = (.slice Ao25 x14_3.length co25 : Value).ownBlock) rfl rfl ?aP (fun k_ hk_ => ((Kd.R_mono (ok' := fun k_ => ((fun k_ => some k_ ≠ (u9 : Value).ownBlock)) k_ ∧ some k_ ≠ (u8 : Value).ownBlock) (Kd.R_apart' (HO_14.out) (Kd.S_typed HO_8.out) (by decide)) (fun k_ hk => ⟨hk.1, hk.2⟩))).1 k_ hk_.symm) ?aF ?aO ?aB ?aS ?aL ?_; (case aP => exact Kd.M_row (Kd.R_mono (Kd.R_tight rfl (Kd.R_mono (ok' := fun k_ => ((fun k_ => some k_ ≠ (u9 : Value).ownBlock)) k_ ∧ some k_ ≠ (u8 : Value).ownBlock) (Kd.R_apart' (HO_14.out) (Kd.S_typed HO_8.out) (by decide)) (fun k_ hk => ⟨hk.1, hk.2⟩))) (fun _ h_ => h_))); (case aB => exact (by repeat (first | (with_reducible first | exact HB.out | apply below_alloc | apply pw_below_drewN | apply below_drew1) | exact HB.out))); (case aF => exact (fun k_ hk => Kd.fresh' (Kd.R_lt (by (with_reducible repeat (first | apply Kd.R_alloc | apply Kd.R_drewN | apply Kd.R_drew)); exact HO_9.out)) k_ hk)); (case aO => exact (by (with_reducible repeat (first | apply Kd.S_alloc | apply Kd.S_drewN | apply Kd.S_drew)); exact Kd.S_mono HO_8.out (fun k_ hk => ⟨hk.1, fun e_ => hk.2 e_⟩))); (case aS => exact (below_size (by repeat (first | (with_reducible first | exact HB.out | apply below_alloc | apply pw_below_drewN | apply below_drew1) | exact HB.out)))); (case aL => have := LMc20.out; omega); intro v168 w24 ho hb hg hat; rw [← Ny167.out] at ho; have n0_ := Aside0.mk (Kd.R_over' (by (with_reducible repeat (first | apply Kd.R_alloc | apply Kd.R_drewN | apply Kd.R_drew)); exact HO_9.out) (Kd.S_typed (by (with_reducible repeat (first | apply Kd.S_alloc | apply Kd.S_drewN | apply Kd.S_drew)); exact HO_8.out)) (by decide) hg); have n1_ := Aside0.mk (hb); have n2_ := Aside0.mk (ho); clear HO_9; clear HB; clear HO_8; clear HO_14; have HO_9 := n0_; have HB := n1_; have HO169 := n2_; clear n0_ n1_ n2_; clear ho hb hg hat) | (go_at_call 36; (with_reducible refine (gf_Pow.calls k3 ((x19_1) % 256) a3 t170 _ A21.out).mono ?_); rintro e w' ⟨rfl, ⟨nd, rfl⟩⟩; (try first | exact ⟨rfl, _, World.drewN_drewN _ _ _⟩ | exact ⟨rfl, _, Eq.trans (World.drewN_drewN _ _ _) (congrArg (World.drewN _) (Nat.add_assoc _ _ _))⟩)) | (go_at_call 35; (with_reducible refine (gf_Mul.calls k3 (rd l0 x19_1) t170 t171 _ A22.out).mono ?_); rintro e w' ⟨rfl, ⟨nd, rfl⟩⟩; (try first | exact ⟨rfl, _, World.drewN_drewN _ _ _⟩ | exact ⟨rfl, _, Eq.trans (World.drewN_drewN _ _ _) (congrArg (World.drewN _) (Nat.add_assoc _ _ _))⟩)) | ((with_reducible refine gate_builtin (b := .append) (xs := #[.tmp 62, .tmp 68]) rfl ?_); at_builtin; refine Kd.R_append (Kd.int .u8) (w0 := w) w.heap.size rfl (.tmp 62) (.tmp 68) 22 5 (.int .u8 0) 1 rfl Try.underlying22 info5 rfl (by decide) (by omega) u9 x9_1 t171 [.int .u8 t171] (fun _ => True) (fun _ => False) rfl rfl ?aP (fun _ hk => hk.elim) ?aF ?aO ?aB ?aS ?aL ?_; (case aP => exact rfl); (case aB => exact (by repeat (first | (with_reducible first | exact HB.out | apply below_alloc | apply pw_below_drewN | apply below_drew1) | exact HB.out))); (case aF => exact (fun _ _ => trivial)); (case aO => exact (by (with_reducible repeat (first | apply Kd.R_alloc | apply Kd.R_drewN | apply Kd.R_drew)); exact Kd.R_mono HO_9.out (fun _ hk => trivial))); (case aS => exact (below_size (by repeat (first | (with_reducible first | exact HB.out | apply below_alloc | apply pw_below_drewN | apply below_drew1) | exact HB.out)))); (case aL => have := LMc23.out; omega); intro v173 w26 ho hb hg hat; rw [← Ny172.out] at ho; have n0_ := Aside0.mk (Kd.S_after (ok := (fun _ => True)) (by (with_reducible repeat (first | apply Kd.S_alloc | apply Kd.S_drewN | apply Kd.S_drew)); exact Kd.S_mono HO169.out (fun _ hk => ⟨trivial, hk⟩)) hg hat); have n1_ := Aside0.mk (hb); have n2_ := Aside0.mk (ho); clear HO169; clear HB; clear HO_9; have HO169 := n0_; have HB := n1_; have HO174 := n2_; clear n0_ n1_ n2_; clear ho hb hg hat)))
                go_roundg k3
                case measure => have := HK1.out; have := HK2.out; have := HK3.out; omega
                case rel => exact ⟨(y167), (y172), (wrap64 (x19_1 + 1)), (by first | rfl | (simp; done) | (simp [*]; done)), H', ⟨by have := HK1.out; have := HK2.out; have := HK3.out; omega⟩, ⟨by (with_reducible repeat (first | apply Kd.S_alloc | apply Kd.S_drewN | apply Kd.S_drew)); exact Kd.S_mono HO169.out (fun _ hk => hk.2)⟩, ⟨by (with_reducible repeat (first | apply Kd.R_alloc | apply Kd.R_drewN | apply Kd.R_drew)); exact HO174.out⟩, ⟨by repeat (first | (with_reducible first | exact HB.out | apply below_alloc | apply pw_below_drewN | apply below_drew1) | exact HB.out)⟩⟩
               ·rw [if_neg c23] at H
                exact absurd H (by simp)
              ·rw [if_neg c20] at H
               exact absurd H (by simp)
       ·rw [if_neg c10] at H
        exact absurd H (by simp)
      ·replace c9 := Bool.eq_false_iff.mpr c9
       subst c9
       have H1 : (welch_equations.l0 k1 l0 a2 a3 x8_1 x9_1 l1 (l1.length : Int) (wrap64 (x19_1 + 1))) = some (r1, r2) := by rw [if_neg (show ¬ (false = true) by decide)] at H; exact H
       clear H
       have H := H1
       clear H1
       have H' := Aside0.mk H
       clear H
       have p156 : 0 ≤ (x19_1 : Int) := of_decide_eq_true (by first | (with_reducible assumption) | assumption)
       have q156 : x19_1 < (l1.length : Int) := of_decide_eq_true (by first | (with_reducible assumption) | assumption)
       obtain ⟨ad156, e156, hx156_0⟩ := Kd.at_bool HR1.out x19_1 p156 q156
       (try rw [← Nbq8.out] at hx156_0)
       cases e156
       replace hx156_0 := (HB.out.cell (World.block_lt_of_cell? w _ hx156_0)).trans hx156_0
       replace p156 := eq_true p156
       replace q156 := eq_true q156
       go_wp2
       repeat (go_quiet (fail); try go_wp2)
       go_roundg k1
       case measure => have := HK1.out; omega
       case rel => exact ⟨(x8_1), (x9_1), (wrap64 (x19_1 + 1)), (by first | rfl | (simp; done) | (simp [*]; done)), H', ⟨by have := HK1.out; omega⟩, ⟨by (with_reducible repeat (first | apply Kd.S_alloc | apply Kd.S_drewN | apply Kd.S_drew)); exact HO_8.out⟩, ⟨by (with_reducible repeat (first | apply Kd.R_alloc | apply Kd.R_drewN | apply Kd.R_drew)); exact HO_9.out⟩, ⟨by repeat (first | (with_reducible first | exact HB.out | apply below_alloc | apply pw_below_drewN | apply below_drew1) | exact HB.out)⟩⟩
     ·rw [if_neg c7] at H
      exact absurd H (by simp)
    ·rw [if_neg c6] at H
     exact absurd H (by simp)
   ·rw [if_neg c5] at H
    have c5b0 : decide (x19_1 < (l1.length : Int)) = false := decide_eq_false c5
    clear c5
    simp only [Option.some.injEq, Prod.mk.injEq] at H
    obtain ⟨rfl, rfl⟩ := H
    go_wp2
    repeat (go_quiet (fail); try go_wp2)
    go_ret2
    exact ⟨_, _, by first | rfl | (simp [errW_none, errW_some] <;> rfl) | (simp [*, errW_none, errW_some] <;> rfl), by (with_reducible repeat (first | apply Kd.S_alloc | apply Kd.S_drewN | apply Kd.S_drew)); exact HO_8.out, by (with_reducible repeat (first | apply Kd.R_alloc | apply Kd.R_drewN | apply Kd.R_drew)); exact HO_9.out, by repeat (first | (with_reducible first | exact HB.out | apply below_alloc | apply pw_below_drewN | apply below_drew1) | exact HB.out)⟩
def poly_Degree.l0 : Nat → List Int → Int → Option (Int)
 | 0, _, _ => none
 | k + 1, x0, x3 => if x3 ≥ 0 then (if 0 ≤ x3 then (if x3 < (x0.length : Int) then (if (rd x0 x3) = 0 then (poly_Degree.l0 k x0 (wrap64 (x3 - 1))) else (some x3)) else (none)) else (none)) else (some x3)
def poly_Degree.f (k : Nat) (l0 : List Int) : Option (Int) := poly_Degree.l0 k l0 (wrap64 ((l0.length : Int) - 1))
theorem poly_Degree.mono_l : ∀ k, (∀ y0 y1, LeO (poly_Degree.l0 k y0 y1) (poly_Degree.l0 (k + 1) y0 y1))
 | 0 => fun _ _ r h => by simp [poly_Degree.l0] at h
 | k + 1 => by
  have ih0 := poly_Degree.mono_l k
  ·intro y0 y1
   unfold poly_Degree.l0
   repeat' first
   | (with_reducible exact ih0 _ _)
   | (with_reducible exact LeO.refl _)
   | (with_reducible exact LeO.none _)
   | (with_reducible refine LeO.ite ?_ ?_)
   | (with_reducible refine LeO.bind ?_ (fun _ => ?_))
   | exact ih0 _ _
   | exact LeO.none _
   | refine LeO.ite ?_ ?_
   | refine LeO.bind ?_ (fun _ => ?_)
theorem poly_Degree.mono : ∀ a0 k, LeO (poly_Degree.f k a0) (poly_Degree.f (k + 1) a0) := by
 intro a0 k
 have ih0 := poly_Degree.mono_l k
 unfold poly_Degree.f
 repeat' first
  | (with_reducible exact ih0 _ _)
  | (with_reducible exact LeO.refl _)
  | (with_reducible exact LeO.none _)
  | (with_reducible refine LeO.ite ?_ ?_)
  | (with_reducible refine LeO.bind ?_ (fun _ => ?_))
  | exact ih0 _ _
  | exact LeO.none _
  | refine LeO.ite ?_ ?_
  | refine LeO.bind ?_ (fun _ => ?_)
set_option maxHeartbeats 8000000 in
set_option maxRecDepth 100000 in
theorem poly_Degree.calls (k : Nat) (A0 : Option Addr) (c0 : Nat) (l0 : List Int) (r : Int) (w : World) (hr0 : Kd.C (Kd.int .u8) w A0 l0.length l0) (hc0 : l0.length ≤ c0) (h : poly_Degree.f k l0 = some r) :
 Calls Try.prog 37 #[.slice A0 l0.length c0] w fun e w' => e = .returned (.int .i64 r) ∧ Drawn0 w w' := by
 have HR0 := Aside0.mk hr0
 have HC0 := Aside0.mk hc0
 clear hr0 hc0
 have H : (poly_Degree.l0 k l0 (wrap64 ((l0.length : Int) - 1))) = some r := h
 clear h
 have H' := Aside0.mk H
 clear H
 go_enter Try.func37, Try.ntmps37
 go_wp2
 go_loopg [3] k (fun kq v3 w' => ∃ (x3_1 : Int), v3 = .int .i64 x3_1 ∧ Aside0 (poly_Degree.l0 kq l0 x3_1 = some r) ∧ Aside0 (kq ≤ k) ∧ Drawn0 w w')
 case atStart => exact ⟨(wrap64 ((l0.length : Int) - 1)), (by first | rfl | (simp; done) | (simp [*]; done)), H', ⟨Nat.le_refl _⟩, by repeat (first | exact Drawn0.refl _ | apply Drawn0.step)⟩
 case round =>
  clear H'
  obtain ⟨x3_1, rfl, HA, HK1, ⟨m1, rfl⟩⟩ := hrel
  cases gk with
  | zero => exact absurd HA.out (by simp [poly_Degree.l0])
  | succ k1 =>
   have H := HA.out
   clear HA
   simp only [poly_Degree.l0] at H
   by_cases c2 : x3_1 ≥ 0
   ·rw [if_pos c2] at H
    have c2b0 : decide (0 ≤ x3_1) = true := decide_eq_true c2
    clear c2
    by_cases c3 : 0 ≤ x3_1
    ·rw [if_pos c3] at H
     have c3b0 : decide (0 ≤ x3_1) = true := decide_eq_true c3
     clear c3
     by_cases c4 : x3_1 < (l0.length : Int)
     ·rw [if_pos c4] at H
      have c4b0 : decide (x3_1 < (l0.length : Int)) = true := decide_eq_true c4
      clear c4
      by_cases c5 : (rd l0 x3_1) = 0
      ·rw [if_pos c5] at H
       have c5b0 : ((rd l0 x3_1) == 0) = true := beq_iff_eq.mpr c5
       have c5b1 : ((rd l0 x3_1) != 0) = false := bne_eq_false_iff_eq.mpr c5
       clear c5
       have H' := Aside0.mk H
       clear H
       have p175 : 0 ≤ (x3_1 : Int) := of_decide_eq_true (by first | (with_reducible assumption) | assumption)
       have q175 : x3_1 < (l0.length : Int) := of_decide_eq_true (by first | (with_reducible assumption) | assumption)
       obtain ⟨ad175, e175, hx175_0⟩ := Kd.at_int HR0.out x3_1 p175 q175
       cases e175
       replace p175 := eq_true p175
       replace q175 := eq_true q175
       go_wp2
       go_roundg k1
       case measure => have := HK1.out; omega
       case rel => exact ⟨(wrap64 (x3_1 - 1)), (by first | rfl | (simp; done) | (simp [*]; done)), H', ⟨by have := HK1.out; omega⟩, by repeat (first | exact Drawn0.refl _ | apply Drawn0.step)⟩
      ·rw [if_neg c5] at H
       have c5b0 : ((rd l0 x3_1) == 0) = false := beq_eq_false_iff_ne.mpr c5
       have c5b1 : ((rd l0 x3_1) != 0) = true := bne_iff_ne.mpr c5
       obtain rfl := Option.some.inj H
       have p175 : 0 ≤ (x3_1 : Int) := of_decide_eq_true (by first | (with_reducible assumption) | assumption)
       have q175 : x3_1 < (l0.length : Int) := of_decide_eq_true (by first | (with_reducible assumption) | assumption)
       obtain ⟨ad175, e175, hx175_0⟩ := Kd.at_int HR0.out x3_1 p175 q175
       cases e175
       replace p175 := eq_true p175
       replace q175 := eq_true q175
       go_wp2
       go_ret
       exact ⟨by first | rfl | (simp; done) | (simp [*]; done), by repeat (first | exact Drawn0.refl _ | apply Drawn0.step)⟩
     ·rw [if_neg c4] at H
      exact absurd H (by simp)
    ·rw [if_neg c3] at H
     exact absurd H (by simp)
   ·rw [if_neg c2] at H
    have c2b0 : decide (0 ≤ x3_1) = false := decide_eq_false c2
    clear c2
    obtain rfl := Option.some.inj H
    go_wp2
    go_ret
    exact ⟨by first | rfl | (simp; done) | (simp [*]; done), by repeat (first | exact Drawn0.refl _ | apply Drawn0.step)⟩
def gf_Div.f (k : Nat) (a0 : Int) (a1 : Int) : Option (Int × Bool) := if a1 = 0 then (some (0, false)) else ((gf_Inv.f k a1).bind fun t176 => ((gf_Mul.f k a0 t176).bind fun t177 => (some (t177, true))))
theorem gf_Div.mono : ∀ a0 a1 k, LeO (gf_Div.f k a0 a1) (gf_Div.f (k + 1) a0 a1) := by
 intro a0 a1 k
 unfold gf_Div.f
 repeat' first
  | (with_reducible exact gf_Inv.mono _ _)
  | (with_reducible exact gf_Mul.mono _ _ _)
  | (with_reducible exact LeO.refl _)
  | (with_reducible exact LeO.none _)
  | (with_reducible refine LeO.ite ?_ ?_)
  | (with_reducible refine LeO.bind ?_ (fun _ => ?_))
  | exact gf_Inv.mono _ _
  | exact gf_Mul.mono _ _ _
  | exact LeO.none _
  | refine LeO.ite ?_ ?_
  | refine LeO.bind ?_ (fun _ => ?_)
set_option maxHeartbeats 8000000 in
set_option maxRecDepth 100000 in
theorem gf_Div.calls (k : Nat) (a0 : Int) (a1 : Int) (r1 : Int) (r2 : Bool) (w : World) (h : gf_Div.f k a0 a1 = some (r1, r2)) :
 Calls Try.prog 39 #[.int .u8 a0, .int .u8 a1] w fun e w' => e = .returned (.tuple #[.int .u8 r1, .bool r2]) ∧ Drawn0 w w' := by
 have H : (if a1 = 0 then (some (0, false)) else ((gf_Inv.f k a1).bind fun t176 => ((gf_Mul.f k a0 t176).bind fun t177 => (some (t177, true))))) = some (r1, r2) := h
 clear h
 by_cases c3 : a1 = 0
 ·rw [if_pos c3] at H
  have c3b0 : (a1 == 0) = true := beq_iff_eq.mpr c3
  have c3b1 : (a1 != 0) = false := bne_eq_false_iff_eq.mpr c3
  clear c3
  simp only [Option.some.injEq, Prod.mk.injEq] at H
  obtain ⟨rfl, rfl⟩ := H
  go_enter Try.func39, Try.ntmps39
  go_wp2
  go_ret2
  exact ⟨by first | rfl | (simp; done) | (simp [*]; done), by repeat (first | exact Drawn0.refl _ | apply Drawn0.step)⟩
 ·rw [if_neg c3] at H
  have c3b0 : (a1 == 0) = false := beq_eq_false_iff_ne.mpr c3
  have c3b1 : (a1 != 0) = true := bne_iff_ne.mpr c3
  replace H := Option.bind_eq_some_iff.mp H
  obtain ⟨t176, A40, H⟩ := H
  replace H : ((gf_Mul.f k a0 t176).bind fun t177 => (some (t177, true))) = some (r1, r2) := H
  have A4 := Aside0.mk A40
  clear A40
  replace H := Option.bind_eq_some_iff.mp H
  obtain ⟨t177, A50, H⟩ := H
  replace H : (some (t177, true)) = some (r1, r2) := H
  have A5 := Aside0.mk A50
  clear A50
  simp only [Option.some.injEq, Prod.mk.injEq] at H
  obtain ⟨rfl, rfl⟩ := H
  go_enter Try.func39, Try.ntmps39
  go_wp2_with (first | ((with_reducible refine gate_callee (f := 51) rfl ?_); refine goesL_ (some 10) rfl rfl Try.func51 (by kernel_rfl) rfl #[.int .u8 a1] rfl (by (try simp only [List.map_toArray, List.map_cons, List.map_nil]); first | done | rfl | (simp only [List.length_drop, List.length_take]; rfl)) ?_; (with_reducible refine (gf_Inv.calls k a1 t176 _ A4.out).mono ?_); rintro e w' ⟨rfl, ⟨nd, rfl⟩⟩; refine ⟨_, rfl, ?_⟩) | ((with_reducible refine gate_callee (f := 35) rfl ?_); refine goesL_ (some 11) rfl rfl Try.func35 (by kernel_rfl) rfl #[.int .u8 a0, .int .u8 t176] rfl (by (try simp only [List.map_toArray, List.map_cons, List.map_nil]); first | done | rfl | (simp only [List.length_drop, List.length_take]; rfl)) ?_; (with_reducible refine (gf_Mul.calls k a0 t176 t177 _ A5.out).mono ?_); rintro e w' ⟨rfl, ⟨nd, rfl⟩⟩; refine ⟨_, rfl, ?_⟩))
  go_ret2
  exact ⟨by first | rfl | (simp; done) | (simp [*]; done), by repeat (first | exact Drawn0.refl _ | apply Drawn0.step)⟩
def poly_Trim.f (k : Nat) (l0 : List Int) : Option (List Int) := (poly_Degree.f k l0).bind fun t178 => (if 0 ≤ (wrap64 (t178 + 1)) then (if (wrap64 (t178 + 1)) ≤ (l0.length : Int) then ((slices_Clone_byte_byte.f (l0.take ((wrap64 (t178 + 1)) : Int).toNat)).bind fun t180 => (some t180)) else (none)) else (none))
theorem poly_Trim.mono : ∀ a0 k, LeO (poly_Trim.f k a0) (poly_Trim.f (k + 1) a0) := by
 intro a0 k
 unfold poly_Trim.f
 repeat' first
  | (with_reducible exact poly_Degree.mono _ _)
  | (with_reducible exact LeO.refl _)
  | (with_reducible exact LeO.none _)
  | (with_reducible refine LeO.ite ?_ ?_)
  | (with_reducible refine LeO.bind ?_ (fun _ => ?_))
  | exact poly_Degree.mono _ _
  | exact LeO.none _
  | refine LeO.ite ?_ ?_
  | refine LeO.bind ?_ (fun _ => ?_)
set_option maxHeartbeats 8000000 in
set_option maxRecDepth 100000 in
theorem poly_Trim.calls (k : Nat) (A0 : Option Addr) (c0 : Nat) (l0 : List Int) (r : List Int) (w : World) (hr0 : Kd.C (Kd.int .u8) w A0 l0.length l0) (hc0 : l0.length ≤ c0) (h : poly_Trim.f k l0 = some r) :
 Calls Try.prog 40 #[.slice A0 l0.length c0] w fun e w' => ∃ v0_ : Value, e = .returned (v0_) ∧ Kd.R (Kd.int .u8) 5 w' w.heap.size (fun _ => True) v0_ r ∧ Below w.heap.size w w' := by
 have HR0 := Aside0.mk hr0
 have HC0 := Aside0.mk hc0
 clear hr0 hc0
 have HB := Aside0.mk (Below.refl w.heap.size w)
 have H : ((poly_Degree.f k l0).bind fun t178 => (if 0 ≤ (wrap64 (t178 + 1)) then (if (wrap64 (t178 + 1)) ≤ (l0.length : Int) then ((slices_Clone_byte_byte.f (l0.take ((wrap64 (t178 + 1)) : Int).toNat)).bind fun t180 => (some t180)) else (none)) else (none))) = some r := h
 clear h
 replace H := Option.bind_eq_some_iff.mp H
 obtain ⟨t178, A20, H⟩ := H
 replace H : (if 0 ≤ (wrap64 (t178 + 1)) then (if (wrap64 (t178 + 1)) ≤ (l0.length : Int) then ((slices_Clone_byte_byte.f (l0.take ((wrap64 (t178 + 1)) : Int).toNat)).bind fun t180 => (some t180)) else (none)) else (none)) = some r := H
 have A2 := Aside0.mk A20
 clear A20
 obtain ⟨ji3, hji3⟩ : ∃ j_ : Int, (wrap64 (t178 + 1)) = j_ := ⟨_, rfl⟩
 replace H : (if 0 ≤ (ji3) then (if (ji3) ≤ (l0.length : Int) then ((slices_Clone_byte_byte.f (l0.take ((ji3) : Int).toNat)).bind fun t180 => (some t180)) else (none)) else (none)) = some r := by first | (rw [hji3] at H; exact H) | (simp only [hji3] at H ⊢; exact H)
 (try rw [hji3] at A2)
 have hji3w : (IntKind.i64.wrap (t178 + 1)) = ji3 := (i64_w _).trans hji3
 by_cases c4 : 0 ≤ (ji3)
 ·rw [if_pos c4] at H
  have c4b0 := eq_true c4
  have c4b1 : decide (0 ≤ (ji3)) = true := decide_eq_true c4
  clear c4
  by_cases c5 : (ji3) ≤ (l0.length : Int)
  ·rw [if_pos c5] at H
   have c5b0 := eq_true c5
   have c5b1 : decide ((ji3) ≤ (l0.length : Int)) = true := decide_eq_true c5
   clear c5
   replace H := Option.bind_eq_some_iff.mp H
   obtain ⟨t180, A60, H⟩ := H
   replace H : (some t180) = some r := H
   have A6 := Aside0.mk A60
   clear A60
   obtain rfl := Option.some.inj H
   go_enter Try.func40, Try.ntmps40
   go_wp2_with (first | ((with_reducible refine gate_callee (f := 37) rfl ?_); refine goesL_ (some 5) rfl rfl Try.func37 (by kernel_rfl) rfl #[.slice A0 l0.length c0] rfl (by (try simp only [List.map_toArray, List.map_cons, List.map_nil]); first | done | rfl | (simp only [List.length_drop, List.length_take]; rfl)) ?_; (with_reducible refine (poly_Degree.calls k _ _ l0 t178 _ ?side1 ?side2 A2.out).mono ?_); (case side1 => repeat (first | exact HR0.out | (with_reducible refine Kd.C_alloc ?_ _) | (with_reducible refine Kd.C_drewN ?_ _) | (with_reducible refine Kd.C_drew ?_))); (case side2 => exact HC0.out); rintro e w' ⟨rfl, ⟨nd, rfl⟩⟩; refine ⟨_, rfl, ?_⟩; obtain ⟨i07, hi07, _, hsz7, _⟩ := info_parts info5; obtain ⟨hcut7, hA7, hC7⟩ := print_take_of (P := Try.prog) (Value.int .u8) 0 22 5 .i64 Try.underlying22 hi07 hsz7 A0 c0 l0 (ji3) (of_decide_eq_true (by first | (with_reducible assumption) | assumption)) (of_decide_eq_true (by first | (with_reducible assumption) | assumption)) HC0.out; have HR179 := Aside0.mk (Kd.C_of_reads (h1 := fun _ => rfl) (hA7 _ (Kd.reads_of_C HR0.out))); have HC179 := Aside0.mk hC7; clear hA7 hC7 hi07 hsz7) | ((with_reducible refine gate_callee (f := 38) rfl ?_); refine goesL_ (some 8) rfl rfl Try.func38 (by kernel_rfl) rfl #[.slice A0 (l0.take ((ji3) : Int).toNat).length c0] rfl (by (try simp only [List.map_toArray, List.map_cons, List.map_nil]); first | done | (rw [show (l0.take ((ji3) : Int).toNat).length = (ji3).toNat from (by rw [List.length_take]; have h_ : ((ji3) : Int) ≤ (l0.length : Int) := of_decide_eq_true (by first | (with_reducible assumption) | assumption); omega)] <;> rfl) | (simp only [hji3]; rfl) | rfl | (simp only [List.length_drop, List.length_take]; rfl)) ?_; (with_reducible refine (slices_Clone_byte_byte.calls _ _ (l0.take ((ji3) : Int).toNat) t180 _ ?side1 ?side2 A6.out).mono ?_); (case side1 => repeat (first | exact HR179.out | (with_reducible refine Kd.C_alloc ?_ _) | (with_reducible refine Kd.C_drewN ?_ _) | (with_reducible refine Kd.C_drew ?_))); (case side2 => exact HC179.out); rintro e w8 ⟨v181, rfl, ho0, hb⟩; refine ⟨_, rfl, ?_⟩; have n0_ := Aside0.mk (Kd.R_lower ho0 (below_size (by repeat (first | (with_reducible first | exact HB.out | apply below_alloc | apply pw_below_drewN | apply below_drew1) | exact HB.out)))); have n1_ := Aside0.mk (below_step (by repeat (first | (with_reducible first | exact HB.out | apply below_alloc | apply pw_below_drewN | apply below_drew1) | exact HB.out)) hb); clear HB; have HO182 := n0_; have HB := n1_; clear n0_ n1_; (try clear hb); (try clear hb2); (try clear hk); (try clear hi); (try clear ho0)))
   go_ret
   exact ⟨_, by first | rfl | (simp [errW_none, errW_some] <;> rfl) | (simp only [← hji3]; first | rfl | (simp [errW_none, errW_some] <;> rfl)) | (simp [*, errW_none, errW_some] <;> rfl), by (with_reducible repeat (first | apply Kd.R_alloc | apply Kd.R_drewN | apply Kd.R_drew)); exact HO182.out, by repeat (first | (with_reducible first | exact HB.out | apply below_alloc | apply pw_below_drewN | apply below_drew1) | exact HB.out)⟩
  ·rw [if_neg c5] at H
   exact absurd H (by simp)
 ·rw [if_neg c4] at H
  exact absurd H (by simp)
end Go.Proofs.Ytndljfagojnidaa.P
namespace Go.Proofs.Ytndljfagojnidaa.P
open Go.RowKit Go.Proofs.YtndljfagojnidaaW.PrintWords Go.Proofs.YtndljfagojnidaaW.PrintLast Go.Proofs.YtndljfagojnidaaW.PrintMore
attribute [local go_sem] max2_int min2_int max_two min_two max_three min_three max_four min_four
set_option linter.unusedVariables false
set_option linter.unusedSimpArgs false
mutual
def poly_DivMod.l0 : Nat → List Int → List Int → List Int → Int → Int → Option (List Int × List Int × Bool)
 | 0, _, _, _, _, _ => none
 | k + 1, x1, x4, x5, x7, x8 => if x8 ≥ x7 then (if 0 ≤ x8 then (if x8 < (x5.length : Int) then (if 0 ≤ x7 then (if x7 < (x1.length : Int) then ((gf_Div.f k (rd x5 x8) (rd x1 x7)).bind fun bt199 => (if 0 ≤ (wrap64 (x8 - x7)) then (if (wrap64 (x8 - x7)) < (x4.length : Int) then (poly_DivMod.l1 k x1 (x4.set ((wrap64 (x8 - x7)) : Int).toNat bt199.1) x5 x7 x8 bt199.1 (wrap64 (x7 + 1)) 0) else (none)) else (none))) else (none)) else (none)) else (none)) else (none)) else ((poly_Trim.f k x4).bind fun t191 => ((poly_Trim.f k x5).bind fun t194 => (some (t191, t194, true))))
def poly_DivMod.l1 : Nat → List Int → List Int → List Int → Int → Int → Int → Int → Int → Option (List Int × List Int × Bool)
 | 0, _, _, _, _, _, _, _, _ => none
 | k + 1, x1, x4, x5, x7, x8, x9, x50, x51 => if x51 < x50 then (if 0 ≤ (wrap64 ((wrap64 (x8 - x7)) + x51)) then (if (wrap64 ((wrap64 (x8 - x7)) + x51)) < (x5.length : Int) then (if 0 ≤ x51 then (if x51 < (x1.length : Int) then ((gf_Mul.f k x9 (rd x1 x51)).bind fun t204 => (poly_DivMod.l1 k x1 x4 (x5.set ((wrap64 ((wrap64 (x8 - x7)) + x51)) : Int).toNat (Go.bits .xor .u8 (rd x5 (wrap64 ((wrap64 (x8 - x7)) + x51))) t204)) x7 x8 x9 x50 (wrap64 (x51 + 1)))) else (none)) else (none)) else (none)) else (none)) else (poly_DivMod.l0 k x1 x4 x5 x7 (wrap64 (x8 - 1)))
end
def poly_DivMod.f (k : Nat) (l0 : List Int) (l1 : List Int) : Option (List Int × List Int × Bool) := (poly_Degree.f k l1).bind fun t183 => (if t183 < 0 then (some (([] : List Int), ([] : List Int), false)) else ((slices_Clone_byte_byte.f l0).bind fun t184 => (if 0 ≤ (mx (wrap64 ((l0.length : Int) - t183)) 0) then (if (mx (wrap64 ((l0.length : Int) - t183)) 0 : Int).toNat ≤ 281474976710656 then ((poly_Degree.f k l0).bind fun t190 => (poly_DivMod.l0 k l1 (List.replicate (mx (wrap64 ((l0.length : Int) - t183)) 0 : Int).toNat 0) t184 t183 t190)) else (none)) else (none))))
theorem poly_DivMod.mono_l : ∀ k, (∀ y0 y1 y2 y3 y4, LeO (poly_DivMod.l0 k y0 y1 y2 y3 y4) (poly_DivMod.l0 (k + 1) y0 y1 y2 y3 y4)) ∧ (∀ y0 y1 y2 y3 y4 y5 y6 y7, LeO (poly_DivMod.l1 k y0 y1 y2 y3 y4 y5 y6 y7) (poly_DivMod.l1 (k + 1) y0 y1 y2 y3 y4 y5 y6 y7))
 | 0 => ⟨fun _ _ _ _ _ r h => by simp [poly_DivMod.l0] at h, fun _ _ _ _ _ _ _ _ r h => by simp [poly_DivMod.l1] at h⟩
 | k + 1 => by
  obtain ⟨ih0, ih1⟩ := poly_DivMod.mono_l k
  refine ⟨?_, ?_⟩
  ·intro y0 y1 y2 y3 y4
   unfold poly_DivMod.l0
   repeat' first
   | (with_reducible exact ih0 _ _ _ _ _)
   | (with_reducible exact ih1 _ _ _ _ _ _ _ _)
   | (with_reducible exact gf_Div.mono _ _ _)
   | (with_reducible exact gf_Mul.mono _ _ _)
   | (with_reducible exact poly_Degree.mono _ _)
   | (with_reducible exact poly_Trim.mono _ _)
   | (with_reducible exact LeO.refl _)
   | (with_reducible exact LeO.none _)
   | (with_reducible refine LeO.ite ?_ ?_)
   | (with_reducible refine LeO.bind ?_ (fun _ => ?_))
   | exact ih0 _ _ _ _ _
   | exact ih1 _ _ _ _ _ _ _ _
   | exact gf_Div.mono _ _ _
   | exact gf_Mul.mono _ _ _
   | exact poly_Degree.mono _ _
   | exact poly_Trim.mono _ _
   | exact LeO.none _
   | refine LeO.ite ?_ ?_
   | refine LeO.bind ?_ (fun _ => ?_)
  ·intro y0 y1 y2 y3 y4 y5 y6 y7
   unfold poly_DivMod.l1
   repeat' first
   | (with_reducible exact ih0 _ _ _ _ _)
   | (with_reducible exact ih1 _ _ _ _ _ _ _ _)
   | (with_reducible exact gf_Div.mono _ _ _)
   | (with_reducible exact gf_Mul.mono _ _ _)
   | (with_reducible exact poly_Degree.mono _ _)
   | (with_reducible exact poly_Trim.mono _ _)
   | (with_reducible exact LeO.refl _)
   | (with_reducible exact LeO.none _)
   | (with_reducible refine LeO.ite ?_ ?_)
   | (with_reducible refine LeO.bind ?_ (fun _ => ?_))
   | exact ih0 _ _ _ _ _
   | exact ih1 _ _ _ _ _ _ _ _
   | exact gf_Div.mono _ _ _
   | exact gf_Mul.mono _ _ _
   | exact poly_Degree.mono _ _
   | exact poly_Trim.mono _ _
   | exact LeO.none _
   | refine LeO.ite ?_ ?_
   | refine LeO.bind ?_ (fun _ => ?_)
theorem poly_DivMod.mono : ∀ a0 a1 k, LeO (poly_DivMod.f k a0 a1) (poly_DivMod.f (k + 1) a0 a1) := by
 intro a0 a1 k
 obtain ⟨ih0, ih1⟩ := poly_DivMod.mono_l k
 unfold poly_DivMod.f
 repeat' first
  | (with_reducible exact ih0 _ _ _ _ _)
  | (with_reducible exact ih1 _ _ _ _ _ _ _ _)
  | (with_reducible exact gf_Div.mono _ _ _)
  | (with_reducible exact gf_Mul.mono _ _ _)
  | (with_reducible exact poly_Degree.mono _ _)
  | (with_reducible exact poly_Trim.mono _ _)
  | (with_reducible exact LeO.refl _)
  | (with_reducible exact LeO.none _)
  | (with_reducible refine LeO.ite ?_ ?_)
  | (with_reducible refine LeO.bind ?_ (fun _ => ?_))
  | exact ih0 _ _ _ _ _
  | exact ih1 _ _ _ _ _ _ _ _
  | exact gf_Div.mono _ _ _
  | exact gf_Mul.mono _ _ _
  | exact poly_Degree.mono _ _
  | exact poly_Trim.mono _ _
  | exact LeO.none _
  | refine LeO.ite ?_ ?_
  | refine LeO.bind ?_ (fun _ => ?_)
def poly_DivMod.T9 : Bool × List (List Nat × List Nat) := (true, [([], []), ([], []), ([0, 1], [0, 1]), ([2], [2]), ([], []), ([], []), ([4, 5], [4, 5]), ([6], [6]), ([3, 7], [3, 7]), ([8], [8]), ([9], [9]), ([9], [9]), ([10, 8, 0, 1, 2, 3, 4, 5, 6, 7, 8, 9, 10], [10]), ([11, 12, 0, 1, 2, 3, 4, 5, 6, 7, 8, 9, 10, 11, 12], [11])])
def poly_DivMod.B9 : List Nat := [0, 0, 3, 7, 0, 0, 48, 112, 255, 511, 1023, 1023, 2047, 8191]
theorem poly_DivMod.tab9 : rtab .any (opsOf Try.f26 9) = poly_DivMod.T9 := by kernel_rfl
theorem poly_DivMod.bits9 : waitsOk poly_DivMod.T9.2 poly_DivMod.B9 = true := by kernel_rfl
def poly_DivMod.T14 : Bool × List (List Nat × List Nat) := (true, [([], []), ([], []), ([], []), ([1, 2], [1, 2]), ([], []), ([3, 4], [3, 4]), ([0, 5], [0, 5]), ([6], [6]), ([], []), ([], []), ([], []), ([9, 10], [9, 10]), ([11], [11]), ([8, 12], [8, 12]), ([7, 13], [7, 13]), ([0, 5, 0, 1, 2, 3, 4, 5, 6, 7, 8, 9, 10, 11, 12, 13, 14], [0, 5]), ([15, 14, 13, 0, 1, 2, 3, 4, 5, 6, 7, 8, 9, 10, 11, 12, 13, 14], [14, 15])])
def poly_DivMod.B14 : List Nat := [0, 0, 0, 6, 0, 30, 63, 127, 0, 0, 0, 1536, 3584, 7936, 16383, 32767, 65535]
theorem poly_DivMod.tab14 : rtab .any (opsOf Try.f26 14) = poly_DivMod.T14 := by kernel_rfl
theorem poly_DivMod.bits14 : waitsOk poly_DivMod.T14.2 poly_DivMod.B14 = true := by kernel_rfl
set_option maxHeartbeats 8000000 in
set_option maxRecDepth 100000 in
theorem poly_DivMod.calls (k : Nat) (A0 : Option Addr) (c0 : Nat) (l0 : List Int) (A1 : Option Addr) (c1 : Nat) (l1 : List Int) (r1 : List Int) (r2 : List Int) (r3 : Bool) (w : World) (hr0 : Kd.C (Kd.int .u8) w A0 l0.length l0) (hc0 : l0.length ≤ c0) (hr1 : Kd.C (Kd.int .u8) w A1 l1.length l1) (hc1 : l1.length ≤ c1) (h : poly_DivMod.f k l0 l1 = some (r1, r2, r3)) :
 Calls Try.prog 26 #[.slice A0 l0.length c0, .slice A1 l1.length c1] w fun e w' => ∃ v0_ v1_ : Value, e = .returned (.tuple #[v0_, v1_, .bool r3]) ∧ Kd.R (Kd.int .u8) 5 w' w.heap.size (fun k_ => some k_ ≠ (v1_ : Value).ownBlock) v0_ r1 ∧ Kd.R (Kd.int .u8) 5 w' w.heap.size (fun k_ => some k_ ≠ (v0_ : Value).ownBlock) v1_ r2 ∧ Below w.heap.size w w' := by
 have HR0 := Aside0.mk hr0
 have HC0 := Aside0.mk hc0
 clear hr0 hc0
 have HR1 := Aside0.mk hr1
 have HC1 := Aside0.mk hc1
 clear hr1 hc1
 have HB := Aside0.mk (Below.refl w.heap.size w)
 have H : ((poly_Degree.f k l1).bind fun t183 => (if t183 < 0 then (some (([] : List Int), ([] : List Int), false)) else ((slices_Clone_byte_byte.f l0).bind fun t184 => (if 0 ≤ (mx (wrap64 ((l0.length : Int) - t183)) 0) then (if (mx (wrap64 ((l0.length : Int) - t183)) 0 : Int).toNat ≤ 281474976710656 then ((poly_Degree.f k l0).bind fun t190 => (poly_DivMod.l0 k l1 (List.replicate (mx (wrap64 ((l0.length : Int) - t183)) 0 : Int).toNat 0) t184 t183 t190)) else (none)) else (none))))) = some (r1, r2, r3) := h
 clear h
 replace H := Option.bind_eq_some_iff.mp H
 obtain ⟨t183, A30, H⟩ := H
 replace H : (if t183 < 0 then (some (([] : List Int), ([] : List Int), false)) else ((slices_Clone_byte_byte.f l0).bind fun t184 => (if 0 ≤ (mx (wrap64 ((l0.length : Int) - t183)) 0) then (if (mx (wrap64 ((l0.length : Int) - t183)) 0 : Int).toNat ≤ 281474976710656 then ((poly_Degree.f k l0).bind fun t190 => (poly_DivMod.l0 k l1 (List.replicate (mx (wrap64 ((l0.length : Int) - t183)) 0 : Int).toNat 0) t184 t183 t190)) else (none)) else (none)))) = some (r1, r2, r3) := H
 have A3 := Aside0.mk A30
 clear A30
 by_cases c4 : t183 < 0
 ·rw [if_pos c4] at H
  have c4b0 : decide (t183 < 0) = true := decide_eq_true c4
  clear c4
  simp only [Option.some.injEq, Prod.mk.injEq] at H
  obtain ⟨rfl, rfl, rfl⟩ := H
  go_enter Try.func26, Try.ntmps26
  go_wp2_with (first | ((with_reducible refine gate_callee (f := 37) rfl ?_); refine goesL_ (some 13) rfl rfl Try.func37 (by kernel_rfl) rfl #[.slice A1 l1.length c1] rfl (by (try simp only [List.map_toArray, List.map_cons, List.map_nil]); first | done | rfl | (simp only [List.length_drop, List.length_take]; rfl)) ?_; (with_reducible refine (poly_Degree.calls k _ _ l1 t183 _ ?side1 ?side2 A3.out).mono ?_); (case side1 => repeat (first | exact HR1.out | (with_reducible refine Kd.C_alloc ?_ _) | (with_reducible refine Kd.C_drewN ?_ _) | (with_reducible refine Kd.C_drew ?_))); (case side2 => exact HC1.out); rintro e w' ⟨rfl, ⟨nd, rfl⟩⟩; refine ⟨_, rfl, ?_⟩))
  go_ret3
  exact ⟨_, _, by first | rfl | (simp [errW_none, errW_some] <;> rfl) | (simp [*, errW_none, errW_some] <;> rfl), by first | exact Kd.R_nil _ _ _ _ _ | exact Kd.N_nil _ _ _ _ _ | exact Kd.V_nil _ _ _ _ _ | exact Kd.Q_nil _ _ _ _ _ | exact Kd.S_nil _ _ _ _ _, by first | exact Kd.R_nil _ _ _ _ _ | exact Kd.N_nil _ _ _ _ _ | exact Kd.V_nil _ _ _ _ _ | exact Kd.Q_nil _ _ _ _ _ | exact Kd.S_nil _ _ _ _ _, by repeat (first | (with_reducible first | exact HB.out | apply below_alloc | apply pw_below_drewN | apply below_drew1) | exact HB.out)⟩
 ·rw [if_neg c4] at H
  have c4b0 : decide (t183 < 0) = false := decide_eq_false c4
  clear c4
  replace H := Option.bind_eq_some_iff.mp H
  obtain ⟨t184, A50, H⟩ := H
  replace H : (if 0 ≤ (mx (wrap64 ((l0.length : Int) - t183)) 0) then (if (mx (wrap64 ((l0.length : Int) - t183)) 0 : Int).toNat ≤ 281474976710656 then ((poly_Degree.f k l0).bind fun t190 => (poly_DivMod.l0 k l1 (List.replicate (mx (wrap64 ((l0.length : Int) - t183)) 0 : Int).toNat 0) t184 t183 t190)) else (none)) else (none)) = some (r1, r2, r3) := H
  have A5 := Aside0.mk A50
  clear A50
  obtain ⟨ji6, hji6⟩ : ∃ j_ : Int, (mx (wrap64 ((l0.length : Int) - t183)) 0) = j_ := ⟨_, rfl⟩
  replace H : (if 0 ≤ (ji6) then (if (ji6 : Int).toNat ≤ 281474976710656 then ((poly_Degree.f k l0).bind fun t190 => (poly_DivMod.l0 k l1 (List.replicate (ji6 : Int).toNat 0) t184 t183 t190)) else (none)) else (none)) = some (r1, r2, r3) := by first | (rw [hji6] at H; exact H) | (simp only [hji6] at H ⊢; exact H)
  (try rw [hji6] at A3)
  (try rw [hji6] at A5)
  (try (have hji6l : 0 ≤ ji6 := by (rw [← hji6]; unfold mx; (repeat' split) <;> omega)))
  (try (have hji6m : 0 ≤ ji6 := by omega))
  have hji6_ : (if (wrap64 ((l0.length : Int) - t183)) < 0 then 0 else (wrap64 ((l0.length : Int) - t183))) = ji6 := hji6
  by_cases c7 : 0 ≤ (ji6)
  ·rw [if_pos c7] at H
   have c7b0 := eq_true c7
   have c7b1 : decide (0 ≤ (ji6)) = true := decide_eq_true c7
   clear c7
   by_cases c8 : (ji6 : Int).toNat ≤ 281474976710656
   ·rw [if_pos c8] at H
    have c8b0 := eq_true c8
    have c8b1 : decide ((ji6 : Int).toNat ≤ 281474976710656) = true := decide_eq_true c8
    clear c8
    obtain ⟨y187, hy187⟩ : ∃ y_ : List Int, y_ = (List.replicate (ji6 : Int).toNat 0) := ⟨_, rfl⟩
    replace H : ((poly_Degree.f k l0).bind fun t190 => (poly_DivMod.l0 k l1 y187 t184 t183 t190)) = some (r1, r2, r3) := by first | (rw [hy187]; with_reducible exact H) | (have H2_ := (Option.bind_some _ _).symm.trans H; rw [hy187]; with_reducible exact H2_) | (have H2_ := (Option.bind_some _ _).symm.trans H; with_reducible exact H2_) | with_reducible exact H | (rw [hy187]; exact H) | exact H
    have Ny187 := Aside0.mk hy187
    clear hy187
    replace H := Option.bind_eq_some_iff.mp H
    obtain ⟨t190, A90, H⟩ := H
    replace H : (poly_DivMod.l0 k l1 y187 t184 t183 t190) = some (r1, r2, r3) := H
    have A9 := Aside0.mk A90
    clear A90
    have H' := Aside0.mk H
    clear H
    go_enter Try.func26, Try.ntmps26
    go_wp2_with (first | ((with_reducible refine gate_callee (f := 37) rfl ?_); refine goesL_ (some 13) rfl rfl Try.func37 (by kernel_rfl) rfl #[.slice A1 l1.length c1] rfl (by (try simp only [List.map_toArray, List.map_cons, List.map_nil]); first | done | rfl | (simp only [List.length_drop, List.length_take]; rfl)) ?_; (with_reducible refine (poly_Degree.calls k _ _ l1 t183 _ ?side1 ?side2 A3.out).mono ?_); (case side1 => repeat (first | exact HR1.out | (with_reducible refine Kd.C_alloc ?_ _) | (with_reducible refine Kd.C_drewN ?_ _) | (with_reducible refine Kd.C_drew ?_))); (case side2 => exact HC1.out); rintro e w' ⟨rfl, ⟨nd, rfl⟩⟩; refine ⟨_, rfl, ?_⟩) | ((with_reducible refine gate_callee (f := 38) rfl ?_); refine goesL_ (some 17) rfl rfl Try.func38 (by kernel_rfl) rfl #[.slice A0 l0.length c0] rfl (by (try simp only [List.map_toArray, List.map_cons, List.map_nil]); first | done | rfl | (simp only [List.length_drop, List.length_take]; rfl)) ?_; (with_reducible refine (slices_Clone_byte_byte.calls _ _ l0 t184 _ ?side1 ?side2 A5.out).mono ?_); (case side1 => repeat (first | exact HR0.out | (with_reducible refine Kd.C_alloc ?_ _) | (with_reducible refine Kd.C_drewN ?_ _) | (with_reducible refine Kd.C_drew ?_))); (case side2 => exact HC0.out); rintro e w10 ⟨v185, rfl, ho0, hb⟩; refine ⟨_, rfl, ?_⟩; have n0_ := Aside0.mk (Kd.R_lower ho0 (below_size (by repeat (first | (with_reducible first | exact HB.out | apply below_alloc | apply pw_below_drewN | apply below_drew1) | exact HB.out)))); have n1_ := Aside0.mk (below_step (by repeat (first | (with_reducible first | exact HB.out | apply below_alloc | apply pw_below_drewN | apply below_drew1) | exact HB.out)) hb); clear HB; have HO186 := n0_; have HB := n1_; clear n0_ n1_; (try clear hb); (try clear hb2); (try clear hk); (try clear hi); (try clear ho0)) | ((with_reducible refine gate_dst (N := 23) rfl ?_); refine Kd.R_make (Kd.int .u8) _ 5 rfl (N := 23) rfl 22 _ _ rfl ji6 rfl rfl Try.underlying22 (.int .u8 0) 1 info5 rfl (by decide) (by omega) 0 (ok := fun _ => True) (okp := fun _ => True) rfl (fun _ hk => hk) trivial (of_decide_eq_true (by first | (with_reducible assumption) | assumption)) (Nat.le_trans (Nat.mul_le_mul_right _ (of_decide_eq_true (by first | (with_reducible assumption) | assumption) : ji6.toNat ≤ 281474976710656)) (by omega)) (Below.refl _ _) (Nat.le_refl _) ?_; intro v188 w11 ho12 hb hg_ hnew_; clear hg_ hnew_; (first | rw [← Ny187.out] at ho12 | (simp only [Int.reduceToNat] at ho12; rw [← Ny187.out] at ho12)); have n0_ := Aside0.mk (Kd.R_elder' (by (with_reducible repeat (first | apply Kd.R_alloc | apply Kd.R_drewN | apply Kd.R_drew)); exact HO186.out) (Kd.R_base ho12) hb); have n1_ := Aside0.mk (Kd.R_lower (Kd.R_new' ho12 (Kd.R_lt (by (with_reducible repeat (first | apply Kd.R_alloc | apply Kd.R_drewN | apply Kd.R_drew)); exact HO186.out))) (below_size (by repeat (first | (with_reducible first | exact HB.out | apply below_alloc | apply pw_below_drewN | apply below_drew1) | exact HB.out)))); have n2_ := Aside0.mk (below_step (by repeat (first | (with_reducible first | exact HB.out | apply below_alloc | apply pw_below_drewN | apply below_drew1) | exact HB.out)) hb); clear HO186; clear HB; have HO186 := n0_; have HO189 := n1_; have HB := n2_; clear n0_ n1_ n2_; clear hb ho12) | ((with_reducible refine gate_callee (f := 37) rfl ?_); refine goesL_ (some 25) rfl rfl Try.func37 (by kernel_rfl) rfl #[.slice A0 l0.length c0] rfl (by (try simp only [List.map_toArray, List.map_cons, List.map_nil]); first | done | rfl | (simp only [List.length_drop, List.length_take]; rfl)) ?_; (with_reducible refine (poly_Degree.calls k _ _ l0 t190 _ ?side1 ?side2 A9.out).mono ?_); (case side1 => repeat (first | exact (Kd.C_below HR0.out HB.out) | (with_reducible refine Kd.C_alloc ?_ _) | (with_reducible refine Kd.C_drewN ?_ _) | (with_reducible refine Kd.C_drew ?_))); (case side2 => exact HC0.out); rintro e w' ⟨rfl, ⟨nd, rfl⟩⟩; refine ⟨_, rfl, ?_⟩))
    go_loopg [8] k (fun kq v8 w' => ∃ (x4_1 : List Int) (x5_1 : List Int) (x8_1 : Int), v8 = .int .i64 x8_1 ∧ Aside0 (poly_DivMod.l0 kq l1 x4_1 x5_1 t183 x8_1 = some (r1, r2, r3)) ∧ Aside0 (kq ≤ k) ∧ Aside0 (Kd.R (Kd.int .u8) 5 w' w.heap.size (fun k_ => some k_ ≠ (v185 : Value).ownBlock) v188 x4_1) ∧ Aside0 (Kd.R (Kd.int .u8) 5 w' w.heap.size (fun k_ => some k_ ≠ (v188 : Value).ownBlock) v185 x5_1) ∧ Aside0 (Below w.heap.size w w'))
    case atStart => exact ⟨(y187), (t184), (t190), (by first | rfl | (simp; done) | (simp [*]; done)), H', ⟨Nat.le_refl _⟩, ⟨by (with_reducible repeat (first | apply Kd.R_alloc | apply Kd.R_drewN | apply Kd.R_drew)); exact Kd.R_mono HO189.out (fun _ hk => hk.2)⟩, ⟨by (with_reducible repeat (first | apply Kd.R_alloc | apply Kd.R_drewN | apply Kd.R_drew)); exact Kd.R_mono HO186.out (fun _ hk => hk.2)⟩, ⟨by repeat (first | (with_reducible first | exact HB.out | apply below_alloc | apply pw_below_drewN | apply below_drew1) | exact HB.out)⟩⟩
    case round =>
     clear H'
     try clear c1
     try clear c2
     try clear p2
     try clear c3
     try clear c4
     try clear c4b0
     try clear p6
     try clear c7
     try clear c7b0
     try clear c7b1
     try clear c8
     try clear c8b0
     try clear c8b1
     obtain ⟨x4_1, x5_1, x8_1, rfl, HA, HK1, HO_4, HO_5, HB⟩ := hrel
     cases gk with
     | zero => exact absurd HA.out (by simp [poly_DivMod.l0])
     | succ k1 =>
      have H := HA.out
      clear HA
      simp only [poly_DivMod.l0] at H
      by_cases c13 : x8_1 ≥ t183
      ·rw [if_pos c13] at H
       have c13b0 : decide (t183 ≤ x8_1) = true := decide_eq_true c13
       clear c13
       by_cases c14 : 0 ≤ x8_1
       ·rw [if_pos c14] at H
        have c14b0 : decide (0 ≤ x8_1) = true := decide_eq_true c14
        clear c14
        by_cases c15 : x8_1 < (x5_1.length : Int)
        ·rw [if_pos c15] at H
         have c15b0 : decide (x8_1 < (x5_1.length : Int)) = true := decide_eq_true c15
         clear c15
         by_cases c16 : 0 ≤ t183
         ·rw [if_pos c16] at H
          have c16b0 : decide (0 ≤ t183) = true := decide_eq_true c16
          clear c16
          by_cases c17 : t183 < (l1.length : Int)
          ·rw [if_pos c17] at H
           have c17b0 : decide (t183 < (l1.length : Int)) = true := decide_eq_true c17
           clear c17
           replace H := Option.bind_eq_some_iff.mp H
           obtain ⟨⟨t199, t200⟩, A180, H⟩ := H
           replace H : (if 0 ≤ (wrap64 (x8_1 - t183)) then (if (wrap64 (x8_1 - t183)) < (x4_1.length : Int) then (poly_DivMod.l1 k1 l1 (x4_1.set ((wrap64 (x8_1 - t183)) : Int).toNat t199) x5_1 t183 x8_1 t199 (wrap64 (t183 + 1)) 0) else (none)) else (none)) = some (r1, r2, r3) := H
           have A18 := Aside0.mk A180
           clear A180
           obtain ⟨ji19, hji19⟩ : ∃ j_ : Int, (wrap64 (x8_1 - t183)) = j_ := ⟨_, rfl⟩
           replace H : (if 0 ≤ (ji19) then (if (ji19) < (x4_1.length : Int) then (poly_DivMod.l1 k1 l1 (x4_1.set ((ji19) : Int).toNat t199) x5_1 t183 x8_1 t199 (wrap64 (t183 + 1)) 0) else (none)) else (none)) = some (r1, r2, r3) := by first | (rw [hji19] at H; exact H) | (simp only [hji19] at H ⊢; exact H)
           (try rw [hji19] at A18)
           have hji19w : (IntKind.i64.wrap (x8_1 - t183)) = ji19 := (i64_w _).trans hji19
           by_cases c20 : 0 ≤ (ji19)
           ·rw [if_pos c20] at H
            have c20b0 : decide (0 ≤ (ji19)) = true := decide_eq_true c20
            clear c20
            by_cases c21 : (ji19) < (x4_1.length : Int)
            ·rw [if_pos c21] at H
             have c21b0 : decide ((ji19) < (x4_1.length : Int)) = true := decide_eq_true c21
             clear c21
             obtain ⟨y201, hy201⟩ : ∃ y_ : List Int, y_ = (x4_1.set ((ji19) : Int).toNat t199) := ⟨_, rfl⟩
             replace H : (poly_DivMod.l1 k1 l1 y201 x5_1 t183 x8_1 t199 (wrap64 (t183 + 1)) 0) = some (r1, r2, r3) := by first | (rw [hy201]; with_reducible exact H) | (have H2_ := (Option.bind_some _ _).symm.trans H; rw [hy201]; with_reducible exact H2_) | (have H2_ := (Option.bind_some _ _).symm.trans H; with_reducible exact H2_) | with_reducible exact H | (rw [hy201]; exact H) | exact H
             have Ny201 := Aside0.mk hy201
             clear hy201
             have H' := Aside0.mk H
             clear H
             try go_wp2
             have n0_ := Aside0.mk (Kd.R_drew HO_4.out)
             have n1_ := Aside0.mk (Kd.R_drew HO_5.out)
             have n2_ := Aside0.mk (below_drew1 HB.out)
             clear HO_4
             clear HO_5
             clear HB
             have HO_4 := n0_
             have HO_5 := n1_
             have HB := n2_
             clear n0_ n1_ n2_
             obtain ⟨Ao24, co24, eo24⟩ := Kd.R_slice HO_5.out
             (first | subst eo24 | (injection eo24 with f1_ f2_ f3_; have f4_ := f1_.symm; have f5_ := f3_.symm; clear f1_ f2_ f3_; subst f4_; subst f5_))
             have p197 : 0 ≤ (x8_1 : Int) := of_decide_eq_true (by first | (with_reducible assumption) | assumption)
             have q197 : x8_1 < (x5_1.length : Int) := of_decide_eq_true (by first | (with_reducible assumption) | assumption)
             obtain ⟨ad197, e197, hx197_0⟩ := Kd.at_int (Kd.R_reads' HO_5.out).2.2 x8_1 p197 q197
             cases e197
             replace p197 := eq_true p197
             replace q197 := eq_true q197
             have p198 : 0 ≤ (t183 : Int) := of_decide_eq_true (by first | (with_reducible assumption) | assumption)
             have q198 : t183 < (l1.length : Int) := of_decide_eq_true (by first | (with_reducible assumption) | assumption)
             obtain ⟨ad198, e198, hx198_0⟩ := Kd.at_int HR1.out t183 p198 q198
             have hw198_0 := hx198_0
             cases e198
             replace hx198_0 := (HB.out.cell (World.block_lt_of_cell? w _ hx198_0)).trans hx198_0
             replace p198 := eq_true p198
             replace q198 := eq_true q198
             refine start_ (n := 14) (S := fun w' => w'.cell? (ad197.add (x8_1).toNat) = some (.int .u8 (rd x5_1 x8_1)) ∧ w'.cell? (ad198.add (t183).toNat) = some (.int .u8 (rd l1 t183))) (ds := []) #[false, false, false, false, false, false, false, false, false, false, false, false, false, false] (by kernel_rfl) rfl rfl ⟨hx197_0, ((HB.out.cell (World.block_lt_of_cell? w _ hw198_0)).trans hw198_0)⟩ (fun hHeld => ?_); refine with_tabW poly_DivMod.tab9 poly_DivMod.bits9 (fun HT_ HW_ => ?_)
             generalize wr.drew = w23 at HO_4 HO_5 HB hx197_0 hx198_0 hHeld ⊢
             refine pure_ (i := 0) (N := some 32) (v := ?_) (a' := ?_) #[true, false, false, false, false, false, false, false, false, false, false, false, false, false] rfl rfl (any_of HT_.out (by kernel_rfl)) (fun _ _ _ h => h) (Or.inl ⟨by rfl, ?_⟩) ?_ ?_
             rotate_left
             ·intro w'
              go_simp
              with_reducible rfl
             rotate_left
             ·simp only [Act.put, List.setIfInBounds_toArray, List.set_cons_zero, List.set_cons_succ, i64_w, i32_w]
              rfl
             refine pure_ (i := 1) (N := some 33) (v := ?_) (a' := ?_) #[true, true, false, false, false, false, false, false, false, false, false, false, false, false] rfl rfl (any_of HT_.out (by kernel_rfl)) (fun _ _ _ h => h) (Or.inl ⟨by rfl, ?_⟩) ?_ ?_
             rotate_left
             ·intro w'
              go_simp
              with_reducible rfl
             rotate_left
             ·simp only [Act.put, List.setIfInBounds_toArray, List.set_cons_zero, List.set_cons_succ, i64_w, i32_w]
              rfl
             refine pure_ (i := 2) (N := some 34) (v := ?_) (a' := ?_) #[true, true, true, false, false, false, false, false, false, false, false, false, false, false] rfl rfl (any_of HT_.out (by kernel_rfl)) (fun _ _ _ h => h) (Or.inl ⟨by rfl, ?_⟩) ?_ ?_
             rotate_left
             ·intro w'
              go_simp
              with_reducible rfl
             rotate_left
             ·simp only [Act.put, List.setIfInBounds_toArray, List.set_cons_zero, List.set_cons_succ, i64_w, i32_w]
              rfl
             refine pure_ (i := 4) (N := some 36) (v := ?_) (a' := ?_) #[true, true, true, false, true, false, false, false, false, false, false, false, false, false] rfl rfl (any_of HT_.out (by kernel_rfl)) (fun _ _ _ h => h) (Or.inl ⟨by rfl, ?_⟩) ?_ ?_
             rotate_left
             ·intro w'
              go_simp
              with_reducible rfl
             rotate_left
             ·simp only [Act.put, List.setIfInBounds_toArray, List.set_cons_zero, List.set_cons_succ, i64_w, i32_w]
              rfl
             refine pure_ (i := 5) (N := some 37) (v := ?_) (a' := ?_) #[true, true, true, false, true, true, false, false, false, false, false, false, false, false] rfl rfl (any_of HT_.out (by kernel_rfl)) (fun _ _ _ h => h) (Or.inl ⟨by rfl, ?_⟩) ?_ ?_
             rotate_left
             ·intro w'
              go_simp
              with_reducible rfl
             rotate_left
             ·simp only [Act.put, List.setIfInBounds_toArray, List.set_cons_zero, List.set_cons_succ, i64_w, i32_w]
              rfl
             refine pure_ (i := 6) (N := some 38) (v := ?_) (a' := ?_) #[true, true, true, false, true, true, true, false, false, false, false, false, false, false] rfl rfl (any_of HT_.out (by kernel_rfl)) (fun _ _ _ h => h) (Or.inl ⟨by rfl, ?_⟩) ?_ ?_
             rotate_left
             ·intro w'
              go_simp
              with_reducible rfl
             rotate_left
             ·simp only [Act.put, List.setIfInBounds_toArray, List.set_cons_zero, List.set_cons_succ, i64_w, i32_w]
              rfl
             refine take_ (i := 3) (N := some 35) (v := ?_) (a' := ?_) #[true, true, true, true, true, true, true, false, false, false, false, false, false, false] rfl rfl (take_ofW HT_.out HW_.out (by kernel_rfl)) (fun _ _ _ h => h) (Or.inl ⟨by rfl, ?_⟩) hHeld ?_ ?_
             rotate_left
             ·rintro w' ⟨s0, s1⟩
              go_simp
              with_reducible rfl
             rotate_left
             ·simp only [Act.put, List.setIfInBounds_toArray, List.set_cons_zero, List.set_cons_succ, i64_w, i32_w]
              rfl
             refine take_ (i := 7) (N := some 39) (v := ?_) (a' := ?_) #[true, true, true, true, true, true, true, true, false, false, false, false, false, false] rfl rfl (take_ofW HT_.out HW_.out (by kernel_rfl)) (fun _ _ _ h => h) (Or.inl ⟨by rfl, ?_⟩) hHeld ?_ ?_
             rotate_left
             ·rintro w' ⟨s0, s1⟩
              go_simp
              with_reducible rfl
             rotate_left
             ·simp only [Act.put, List.setIfInBounds_toArray, List.set_cons_zero, List.set_cons_succ, i64_w, i32_w]
              rfl
             refine one_ (i := 8) (N := some 40) #[true, true, true, true, true, true, true, true, true, false, false, false, false, false] rfl rfl (one_of HT_.out (by kernel_rfl)) (by decide) (fun K hK => ?_)
             refine goes_ Try.func39 (by kernel_rfl) rfl #[.int .u8 (rd x5_1 x8_1), .int .u8 (rd l1 t183)] (by rfl) rfl rfl (by (try simp only [List.map_toArray, List.map_cons, List.map_nil]); first | done | rfl | (simp only [List.length_drop, List.length_take]; rfl)) ?_
             with_reducible refine (gf_Div.calls k1 (rd x5_1 x8_1) (rd l1 t183) t199 t200 _ A18.out).mono ?_
             rintro e w' ⟨rfl, ⟨nd, rfl⟩⟩
             refine ⟨_, rfl, ?_⟩
             refine hK.out _ _ ⟨hHeld.1, ((HB.out.cell (World.block_lt_of_cell? w _ hw198_0)).trans hw198_0)⟩ (fun hHeld => ?_)
             clear hK K
             refine norm_ (a' := ?_) ?_ ?_
             rotate_left
             ·show Act.put _ (some 40) _ = _
              simp only [Act.put, List.setIfInBounds_toArray, List.set_cons_zero, List.set_cons_succ, i64_w, i32_w]
              rfl
             refine pure_ (i := 9) (N := some 31) (v := ?_) (a' := ?_) #[true, true, true, true, true, true, true, true, true, true, false, false, false, false] rfl rfl (any_of HT_.out (by kernel_rfl)) (fun _ _ _ h => h) (Or.inl ⟨by rfl, ?_⟩) ?_ ?_
             rotate_left
             ·intro w'
              go_simp
              with_reducible rfl
             rotate_left
             ·simp only [Act.put, List.setIfInBounds_toArray, List.set_cons_zero, List.set_cons_succ, i64_w, i32_w]
              rfl
             refine pure_ (i := 10) (N := some 41) (v := ?_) (a' := ?_) #[true, true, true, true, true, true, true, true, true, true, true, false, false, false] rfl rfl (any_of HT_.out (by kernel_rfl)) (fun _ _ _ h => h) (Or.inl ⟨by rfl, ?_⟩) ?_ ?_
             rotate_left
             ·intro w'
              go_simp
              with_reducible rfl
             rotate_left
             ·simp only [Act.put, List.setIfInBounds_toArray, List.set_cons_zero, List.set_cons_succ, i64_w, i32_w]
              rfl
             refine pure_ (i := 11) (N := some 42) (v := ?_) (a' := ?_) #[true, true, true, true, true, true, true, true, true, true, true, true, false, false] rfl rfl (any_of HT_.out (by kernel_rfl)) (fun _ _ _ h => h) (Or.inl ⟨by rfl, ?_⟩) ?_ ?_
             rotate_left
             ·intro w'
              go_simp
              with_reducible rfl
             rotate_left
             ·simp only [Act.put, List.setIfInBounds_toArray, List.set_cons_zero, List.set_cons_succ, i64_w, i32_w]
              rfl
             refine pure_ (i := 12) (N := some 9) (v := ?_) (a' := ?_) #[true, true, true, true, true, true, true, true, true, true, true, true, true, false] rfl rfl (any_of HT_.out (by kernel_rfl)) (fun _ _ _ h => h) (Or.inl ⟨by rfl, ?_⟩) ?_ ?_
             rotate_left
             ·intro w'
              go_simp
              with_reducible rfl
             rotate_left
             ·simp only [Act.put, List.setIfInBounds_toArray, List.set_cons_zero, List.set_cons_succ, i64_w, i32_w]
              rfl
             refine pure_ (i := 13) (N := some 10) (v := ?_) (a' := ?_) #[true, true, true, true, true, true, true, true, true, true, true, true, true, true] rfl rfl (any_of HT_.out (by kernel_rfl)) (fun _ _ _ h => h) (Or.inl ⟨by rfl, ?_⟩) ?_ ?_
             rotate_left
             ·intro w'
              go_simp
              with_reducible rfl
             rotate_left
             ·simp only [Act.put, List.setIfInBounds_toArray, List.set_cons_zero, List.set_cons_succ, i64_w, i32_w]
              rfl
             refine done_ (done_of HT_.out (by kernel_rfl)) ?_
             (try (rw [drewN_self w23]; generalize hq_ : World.drewN w23 _ = w23; have n0_ : Aside0 (Kd.R (Kd.int .u8) 5 w23 w.heap.size (fun k_ => some k_ ≠ (.slice (some ad197) x5_1.length co24 : Value).ownBlock) v188 x4_1) := ⟨by rw [← hq_]; exact (by (with_reducible repeat (first | apply Kd.R_alloc | apply Kd.R_drewN | apply Kd.R_drew)); exact HO_4.out)⟩; have n1_ : Aside0 (Kd.R (Kd.int .u8) 5 w23 w.heap.size (fun k_ => some k_ ≠ (v188 : Value).ownBlock) (.slice (some ad197) x5_1.length co24) x5_1) := ⟨by rw [← hq_]; exact (by (with_reducible repeat (first | apply Kd.R_alloc | apply Kd.R_drewN | apply Kd.R_drew)); exact HO_5.out)⟩; have n2_ : Aside0 (Below w.heap.size w w23) := ⟨by rw [← hq_]; exact (by repeat (first | (with_reducible first | exact HB.out | apply below_alloc | apply pw_below_drewN | apply below_drew1) | exact HB.out))⟩; clear HO_4 HO_5 HB hq_; have HO_4 := n0_; have HO_5 := n1_; have HB := n2_; clear n0_ n1_ n2_))
             have p22 : 0 ≤ ((ji19) : Int) := of_decide_eq_true (by first | (with_reducible assumption) | assumption)
             have q22 : ((ji19) : Int) < ((x4_1.length : Int) : Int) := of_decide_eq_true (by first | (with_reducible assumption) | assumption)
             obtain ⟨go22, co22, eo22, gb22, gl22, cl22, HG22⟩ := Kd.R_form HO_4.out (by omega)
             (first | cases eo22 | (injection eo22 with ea_ en_ ec_; (first | subst ea_ | (injection ea_ with ea_; subst ea_)); subst ec_; clear en_))
             have GB22 := Aside0.mk gb22
             have GG22 := Aside0.mk HG22
             clear gb22 gl22 HG22
             obtain ⟨hx22_0, hf22_0⟩ := Kd.R_celln 0 HO_4.out ((ji19) : Int) p22 q22
             replace p22 := eq_true p22
             replace q22 := eq_true q22
             obtain ⟨hy25_, hz25_⟩ := Kd.R_celln 0 HO_4.out ((ji19) : Int) (of_decide_eq_true (by first | (with_reducible assumption) | assumption)) (of_decide_eq_true (by first | (with_reducible assumption) | assumption))
             have HP25 := Kd.R_putg HO_4.out ((ji19) : Int) t199
             try go_wp2_with (first | ((with_reducible refine gate_store (t := 5) (p := 48) rfl ?_); refine store_event (t := 5) (p := 48) (v := ?vo_w26) (w1 := (w23.setCell ⟨go22, ((ji19) : Int).toNat, none⟩ (.int .u8 t199))) ?hg ?ho ?hn ?hr ?_; (case ho => rfl); (case hg => rfl); (case hn => rfl); (case hr => first | (go_simp; done) | (go_simp; rfl)); intro w26 hw; have hg : w23.grownBy w26 (some go22) := (by rw [hw]; exact HP25.2); have hp_ : Kd.R (Kd.int .u8) 5 w26 w.heap.size (fun k_ => some k_ ≠ (.slice (some ad197) x5_1.length co24 : Value).ownBlock) (.slice (some ⟨go22, 0, none⟩) x4_1.length co22) y201 := (by rw [hw, Ny201.out]; exact HP25.1); clear HP25; have n0_ := Aside0.mk (hp_); have n1_ := Aside0.mk (Kd.R_after (v := (.slice (some ⟨go22, 0, none⟩) x4_1.length co22)) (v1 := (.slice (some ⟨go22, 0, none⟩) x4_1.length co22)) (ok := (fun _ => True)) (by (with_reducible repeat (first | apply Kd.R_alloc | apply Kd.R_drewN | apply Kd.R_drew)); exact Kd.R_mono HO_5.out (fun _ hk => ⟨trivial, hk⟩)) hg (.inl rfl)); have n2_ := Aside0.mk ((by rw [hw]; exact below_set (HB.out) GB22.out : Below w.heap.size w w26)); clear HO_4; clear HO_5; clear HB; have HO_4 := n0_; have HO_5 := n1_; have HB := n2_; clear n0_ n1_ n2_; clear hg hw hp_))
             go_loopg [51] k1 (fun kq v51 w' => ∃ (x5_2 : List Int) (x51_2 : Int), v51 = .int .i64 x51_2 ∧ Aside0 (poly_DivMod.l1 kq l1 y201 x5_2 t183 x8_1 t199 (wrap64 (t183 + 1)) x51_2 = some (r1, r2, r3)) ∧ Aside0 (kq ≤ k1) ∧ Aside0 (Kd.R (Kd.int .u8) 5 w' w.heap.size (fun k_ => some k_ ≠ ((.slice (some ad197) x5_1.length co24) : Value).ownBlock) (.slice (some ⟨go22, 0, none⟩) x4_1.length co22) y201) ∧ Aside0 (Kd.R (Kd.int .u8) 5 w' w.heap.size (fun k_ => some k_ ≠ ((.slice (some ⟨go22, 0, none⟩) x4_1.length co22) : Value).ownBlock) (.slice (some ad197) x5_1.length co24) x5_2) ∧ Aside0 (Below w.heap.size w w'))
             case atStart => exact ⟨(x5_1), (0), (by first | rfl | (simp; done) | (simp [*]; done)), H', ⟨Nat.le_refl _⟩, ⟨by (with_reducible repeat (first | apply Kd.R_alloc | apply Kd.R_drewN | apply Kd.R_drew)); exact HO_4.out⟩, ⟨by (with_reducible repeat (first | apply Kd.R_alloc | apply Kd.R_drewN | apply Kd.R_drew)); exact Kd.R_mono HO_5.out (fun _ hk => hk.2)⟩, ⟨by repeat (first | (with_reducible first | exact HB.out | apply below_alloc | apply pw_below_drewN | apply below_drew1) | exact HB.out)⟩⟩
             case round =>
              clear H'
              try clear c1
              try clear p1
              try clear q1
              try clear hx1
              try clear c2
              try clear p2
              try clear q2
              try clear hx2
              try clear hf2
              try clear c3
              try clear c4
              try clear c4b0
              try clear p6
              try clear c7
              try clear c7b0
              try clear c7b1
              try clear c8
              try clear c8b0
              try clear c8b1
              try clear c13
              try clear c13b0
              try clear c14
              try clear c14b0
              try clear c15
              try clear c15b0
              try clear c16
              try clear c16b0
              try clear c17
              try clear c17b0
              try clear p19
              try clear q19
              try clear hx19
              try clear c20
              try clear c20b0
              try clear c21
              try clear c21b0
              try clear p22
              try clear q22
              try clear hx22
              try clear hf22
              try clear c26
              try clear hx197_0
              try clear hx198_0
              try clear hx22_0
              try clear p197
              try clear p198
              try clear p2
              try clear p22
              try clear p6
              try clear q197
              try clear q198
              try clear q22
              obtain ⟨x5_2, x51_2, rfl, HA, HK2, HO_4, HO_5, HB⟩ := hrel
              have hl4_2 := (Kd.R_reads' HO_4.out).1
              rw [hl4_2] at HO_4
              (try simp only [hl4_2])
              (try simp only [hl4_2] at HO_5)
              have hl5_2 := (Kd.R_reads' HO_5.out).1
              rw [hl5_2] at HO_5
              (try simp only [hl5_2])
              (try simp only [hl5_2] at HO_4)
              cases gk with
              | zero => exact absurd HA.out (by simp [poly_DivMod.l1])
              | succ k2 =>
               have H := HA.out
               clear HA
               simp only [poly_DivMod.l1] at H
               by_cases c27 : x51_2 < (wrap64 (t183 + 1))
               ·rw [if_pos c27] at H
                have c27b0 : decide (x51_2 < (wrap64 (t183 + 1))) = true := decide_eq_true c27
                clear c27
                obtain ⟨ji28, hji28⟩ : ∃ j_ : Int, (wrap64 ((wrap64 (x8_1 - t183)) + x51_2)) = j_ := ⟨_, rfl⟩
                replace H : (if 0 ≤ (ji28) then (if (ji28) < (x5_2.length : Int) then (if 0 ≤ x51_2 then (if x51_2 < (l1.length : Int) then ((gf_Mul.f k2 t199 (rd l1 x51_2)).bind fun t204 => (poly_DivMod.l1 k2 l1 y201 (x5_2.set ((ji28) : Int).toNat (Go.bits .xor .u8 (rd x5_2 (ji28)) t204)) t183 x8_1 t199 (wrap64 (t183 + 1)) (wrap64 (x51_2 + 1)))) else (none)) else (none)) else (none)) else (none)) = some (r1, r2, r3) := by first | (rw [hji28] at H; exact H) | (simp only [hji28] at H ⊢; exact H)
                have hji28w : (IntKind.i64.wrap ((wrap64 (x8_1 - t183)) + x51_2)) = ji28 := (i64_w _).trans hji28
                have hji28r : (wrap64 (ji19 + x51_2)) = ji28 := by first | (simp only [hji19] at hji28; exact hji28) | (rw [← hji19]; exact hji28)
                have hji28rw : (IntKind.i64.wrap (ji19 + x51_2)) = ji28 := (i64_w _).trans hji28r
                by_cases c29 : 0 ≤ (ji28)
                ·rw [if_pos c29] at H
                 have c29b0 : decide (0 ≤ (ji28)) = true := decide_eq_true c29
                 clear c29
                 by_cases c30 : (ji28) < (x5_2.length : Int)
                 ·rw [if_pos c30] at H
                  have c30b0 : decide ((ji28) < (x5_2.length : Int)) = true := decide_eq_true c30
                  have c30b0r := c30b0; (try simp only [hl4_2, hl5_2] at c30b0r)
                  clear c30
                  by_cases c31 : 0 ≤ x51_2
                  ·rw [if_pos c31] at H
                   have c31b0 : decide (0 ≤ x51_2) = true := decide_eq_true c31
                   clear c31
                   by_cases c32 : x51_2 < (l1.length : Int)
                   ·rw [if_pos c32] at H
                    have c32b0 : decide (x51_2 < (l1.length : Int)) = true := decide_eq_true c32
                    have c32b0r := c32b0; (try simp only [hl4_2, hl5_2] at c32b0r)
                    clear c32
                    replace H := Option.bind_eq_some_iff.mp H
                    obtain ⟨t204, A330, H⟩ := H
                    replace H : (poly_DivMod.l1 k2 l1 y201 (x5_2.set ((ji28) : Int).toNat (Go.bits .xor .u8 (rd x5_2 (ji28)) t204)) t183 x8_1 t199 (wrap64 (t183 + 1)) (wrap64 (x51_2 + 1))) = some (r1, r2, r3) := H
                    have A33 := Aside0.mk A330
                    clear A330
                    obtain ⟨y205, hy205⟩ : ∃ y_ : List Int, y_ = (x5_2.set ((ji28) : Int).toNat (Go.bits .xor .u8 (rd x5_2 (ji28)) t204)) := ⟨_, rfl⟩
                    replace H : (poly_DivMod.l1 k2 l1 y201 y205 t183 x8_1 t199 (wrap64 (t183 + 1)) (wrap64 (x51_2 + 1))) = some (r1, r2, r3) := by first | (rw [hy205]; with_reducible exact H) | (have H2_ := (Option.bind_some _ _).symm.trans H; rw [hy205]; with_reducible exact H2_) | (have H2_ := (Option.bind_some _ _).symm.trans H; with_reducible exact H2_) | with_reducible exact H | (rw [hy205]; exact H) | exact H
                    have Ny205 := Aside0.mk hy205
                    clear hy205
                    have H' := Aside0.mk H
                    clear H
                    try go_wp2
                    have n0_ := Aside0.mk (Kd.R_drew HO_4.out)
                    have n1_ := Aside0.mk (Kd.R_drew HO_5.out)
                    have n2_ := Aside0.mk (below_drew1 HB.out)
                    clear HO_4
                    clear HO_5
                    clear HB
                    have HO_4 := n0_
                    have HO_5 := n1_
                    have HB := n2_
                    clear n0_ n1_ n2_
                    have p202 : 0 ≤ ((ji28) : Int) := of_decide_eq_true (by first | (with_reducible assumption) | assumption)
                    have q202 : (ji28) < (x5_2.length : Int) := of_decide_eq_true (by first | (with_reducible assumption) | assumption)
                    obtain ⟨ad202, e202, hx202_0⟩ := Kd.at_int (Kd.R_reads' HO_5.out).2.2 (ji28) p202 q202
                    obtain rfl : ad197 = ad202 := (by injection e202)
                    replace p202 := eq_true p202
                    replace q202 := eq_true q202
                    have p203 : 0 ≤ (x51_2 : Int) := of_decide_eq_true (by first | (with_reducible assumption) | assumption)
                    have q203 : x51_2 < (l1.length : Int) := of_decide_eq_true (by first | (with_reducible assumption) | assumption)
                    obtain ⟨ad203, e203, hx203_0⟩ := Kd.at_int HR1.out x51_2 p203 q203
                    have hw203_0 := hx203_0
                    obtain rfl : ad198 = ad203 := (by injection e203)
                    replace hx203_0 := (HB.out.cell (World.block_lt_of_cell? w _ hx203_0)).trans hx203_0
                    replace p203 := eq_true p203
                    replace q203 := eq_true q203
                    refine start_ (n := 17) (S := fun w' => w'.cell? (ad197.add ((ji28)).toNat) = some (.int .u8 (rd x5_2 (ji28))) ∧ w'.cell? (ad198.add (x51_2).toNat) = some (.int .u8 (rd l1 x51_2))) (ds := [16]) #[false, false, false, false, false, false, false, false, false, false, false, false, false, false, false, false, false] (by kernel_rfl) rfl rfl ⟨hx202_0, ((HB.out.cell (World.block_lt_of_cell? w _ hw203_0)).trans hw203_0)⟩ (fun hHeld => ?_); refine with_tabW poly_DivMod.tab14 poly_DivMod.bits14 (fun HT_ HW_ => ?_)
                    generalize wr.drew = w35 at HO_4 HO_5 HB hx202_0 hx203_0 hHeld ⊢
                    refine pure_ (i := 0) (N := some 54) (v := ?_) (a' := ?_) #[true, false, false, false, false, false, false, false, false, false, false, false, false, false, false, false, false] rfl rfl (any_of HT_.out (by kernel_rfl)) (fun _ _ _ h => h) (Or.inl ⟨by rfl, ?_⟩) ?_ ?_
                    rotate_left
                    ·intro w'
                     go_simp
                     with_reducible rfl
                    rotate_left
                    ·simp only [Act.put, List.setIfInBounds_toArray, List.set_cons_zero, List.set_cons_succ, i64_w, i32_w]
                     rfl
                    refine pure_ (i := 1) (N := some 55) (v := ?_) (a' := ?_) #[true, true, false, false, false, false, false, false, false, false, false, false, false, false, false, false, false] rfl rfl (any_of HT_.out (by kernel_rfl)) (fun _ _ _ h => h) (Or.inl ⟨by rfl, ?_⟩) ?_ ?_
                    rotate_left
                    ·intro w'
                     go_simp
                     with_reducible rfl
                    rotate_left
                    ·simp only [Act.put, List.setIfInBounds_toArray, List.set_cons_zero, List.set_cons_succ, i64_w, i32_w]
                     rfl
                    refine pure_ (i := 2) (N := some 56) (v := ?_) (a' := ?_) #[true, true, true, false, false, false, false, false, false, false, false, false, false, false, false, false, false] rfl rfl (any_of HT_.out (by kernel_rfl)) (fun _ _ _ h => h) (Or.inl ⟨by rfl, ?_⟩) ?_ ?_
                    rotate_left
                    ·intro w'
                     go_simp
                     with_reducible rfl
                    rotate_left
                    ·simp only [Act.put, List.setIfInBounds_toArray, List.set_cons_zero, List.set_cons_succ, i64_w, i32_w]
                     rfl
                    refine pure_ (i := 3) (N := some 57) (v := ?_) (a' := ?_) #[true, true, true, true, false, false, false, false, false, false, false, false, false, false, false, false, false] rfl rfl (any_of HT_.out (by kernel_rfl)) (fun _ _ _ h => h) (Or.inl ⟨by rfl, ?_⟩) ?_ ?_
                    rotate_left
                    ·intro w'
                     go_simp
                     with_reducible rfl
                    rotate_left
                    ·simp only [Act.put, List.setIfInBounds_toArray, List.set_cons_zero, List.set_cons_succ, i64_w, i32_w]
                     rfl
                    refine pure_ (i := 4) (N := some 58) (v := ?_) (a' := ?_) #[true, true, true, true, true, false, false, false, false, false, false, false, false, false, false, false, false] rfl rfl (any_of HT_.out (by kernel_rfl)) (fun _ _ _ h => h) (Or.inl ⟨by rfl, ?_⟩) ?_ ?_
                    rotate_left
                    ·intro w'
                     go_simp
                     with_reducible rfl
                    rotate_left
                    ·simp only [Act.put, List.setIfInBounds_toArray, List.set_cons_zero, List.set_cons_succ, i64_w, i32_w]
                     rfl
                    refine pure_ (i := 5) (N := some 59) (v := ?_) (a' := ?_) #[true, true, true, true, true, true, false, false, false, false, false, false, false, false, false, false, false] rfl rfl (any_of HT_.out (by kernel_rfl)) (fun _ _ _ h => h) (Or.inl ⟨by rfl, ?_⟩) ?_ ?_
                    rotate_left
                    ·intro w'
                     go_simp
                     with_reducible rfl
                    rotate_left
                    ·simp only [Act.put, List.setIfInBounds_toArray, List.set_cons_zero, List.set_cons_succ, i64_w, i32_w]
                     rfl
                    refine pure_ (i := 6) (N := some 60) (v := ?_) (a' := ?_) #[true, true, true, true, true, true, true, false, false, false, false, false, false, false, false, false, false] rfl rfl (any_of HT_.out (by kernel_rfl)) (fun _ _ _ h => h) (Or.inl ⟨by rfl, ?_⟩) ?_ ?_
                    rotate_left
                    ·intro w'
                     go_simp
                     with_reducible rfl
                    rotate_left
                    ·simp only [Act.put, List.setIfInBounds_toArray, List.set_cons_zero, List.set_cons_succ, i64_w, i32_w]
                     rfl
                    refine pure_ (i := 8) (N := some 62) (v := ?_) (a' := ?_) #[true, true, true, true, true, true, true, false, true, false, false, false, false, false, false, false, false] rfl rfl (any_of HT_.out (by kernel_rfl)) (fun _ _ _ h => h) (Or.inl ⟨by rfl, ?_⟩) ?_ ?_
                    rotate_left
                    ·intro w'
                     go_simp
                     with_reducible rfl
                    rotate_left
                    ·simp only [Act.put, List.setIfInBounds_toArray, List.set_cons_zero, List.set_cons_succ, i64_w, i32_w]
                     rfl
                    refine pure_ (i := 9) (N := some 63) (v := ?_) (a' := ?_) #[true, true, true, true, true, true, true, false, true, true, false, false, false, false, false, false, false] rfl rfl (any_of HT_.out (by kernel_rfl)) (fun _ _ _ h => h) (Or.inl ⟨by rfl, ?_⟩) ?_ ?_
                    rotate_left
                    ·intro w'
                     go_simp
                     with_reducible rfl
                    rotate_left
                    ·simp only [Act.put, List.setIfInBounds_toArray, List.set_cons_zero, List.set_cons_succ, i64_w, i32_w]
                     rfl
                    refine pure_ (i := 10) (N := some 64) (v := ?_) (a' := ?_) #[true, true, true, true, true, true, true, false, true, true, true, false, false, false, false, false, false] rfl rfl (any_of HT_.out (by kernel_rfl)) (fun _ _ _ h => h) (Or.inl ⟨by rfl, ?_⟩) ?_ ?_
                    rotate_left
                    ·intro w'
                     go_simp
                     with_reducible rfl
                    rotate_left
                    ·simp only [Act.put, List.setIfInBounds_toArray, List.set_cons_zero, List.set_cons_succ, i64_w, i32_w]
                     rfl
                    refine pure_ (i := 11) (N := some 65) (v := ?_) (a' := ?_) #[true, true, true, true, true, true, true, false, true, true, true, true, false, false, false, false, false] rfl rfl (any_of HT_.out (by kernel_rfl)) (fun _ _ _ h => h) (Or.inl ⟨by rfl, ?_⟩) ?_ ?_
                    rotate_left
                    ·intro w'
                     go_simp
                     with_reducible rfl
                    rotate_left
                    ·simp only [Act.put, List.setIfInBounds_toArray, List.set_cons_zero, List.set_cons_succ, i64_w, i32_w]
                     rfl
                    refine take_ (i := 7) (N := some 61) (v := ?_) (a' := ?_) #[true, true, true, true, true, true, true, true, true, true, true, true, false, false, false, false, false] rfl rfl (take_ofW HT_.out HW_.out (by kernel_rfl)) (fun _ _ _ h => h) (Or.inl ⟨by rfl, ?_⟩) hHeld ?_ ?_
                    rotate_left
                    ·rintro w' ⟨s0, s1⟩
                     go_simp
                     with_reducible rfl
                    rotate_left
                    ·simp only [Act.put, List.setIfInBounds_toArray, List.set_cons_zero, List.set_cons_succ, i64_w, i32_w]
                     rfl
                    refine take_ (i := 12) (N := some 66) (v := ?_) (a' := ?_) #[true, true, true, true, true, true, true, true, true, true, true, true, true, false, false, false, false] rfl rfl (take_ofW HT_.out HW_.out (by kernel_rfl)) (fun _ _ _ h => h) (Or.inl ⟨by rfl, ?_⟩) hHeld ?_ ?_
                    rotate_left
                    ·rintro w' ⟨s0, s1⟩
                     go_simp
                     with_reducible rfl
                    rotate_left
                    ·simp only [Act.put, List.setIfInBounds_toArray, List.set_cons_zero, List.set_cons_succ, i64_w, i32_w]
                     rfl
                    refine one_ (i := 13) (N := some 67) #[true, true, true, true, true, true, true, true, true, true, true, true, true, true, false, false, false] rfl rfl (one_of HT_.out (by kernel_rfl)) (by decide) (fun K hK => ?_)
                    refine goes_ Try.func35 (by kernel_rfl) rfl #[.int .u8 t199, .int .u8 (rd l1 x51_2)] (by rfl) rfl rfl (by (try simp only [List.map_toArray, List.map_cons, List.map_nil]); first | done | rfl | (simp only [List.length_drop, List.length_take]; rfl)) ?_
                    with_reducible refine (gf_Mul.calls k2 t199 (rd l1 x51_2) t204 _ A33.out).mono ?_
                    rintro e w' ⟨rfl, ⟨nd, rfl⟩⟩
                    refine ⟨_, rfl, ?_⟩
                    have p34 : 0 ≤ ((ji28) : Int) := of_decide_eq_true (by first | (with_reducible assumption) | assumption)
                    have q34 : ((ji28) : Int) < ((x5_2.length : Int) : Int) := of_decide_eq_true (by first | (with_reducible assumption) | assumption)
                    obtain ⟨go34, co34, eo34, gb34, gl34, cl34, HG34⟩ := Kd.R_form HO_5.out (by omega)
                    (first | cases eo34 | (injection eo34 with ea_ en_ ec_; (first | subst ea_ | (injection ea_ with ea_; subst ea_)); subst ec_; clear en_))
                    have GB34 := Aside0.mk gb34
                    have GG34 := Aside0.mk HG34
                    clear gb34 gl34 HG34
                    (first | simp only [add_plain] at hx197_0 | skip)
                    (first | simp only [add_plain] at hx202_0 | skip)
                    obtain ⟨hx34_0, hf34_0⟩ := Kd.R_celln 0 HO_5.out ((ji28) : Int) p34 q34
                    replace p34 := eq_true p34
                    replace q34 := eq_true q34
                    have HP36 := Kd.R_putn HO_5.out ((ji28) : Int) (Go.bits .xor .u8 (rd x5_2 (ji28)) t204)
                    rw [← Ny205.out] at HP36
                    have HQ36 := Aside0.mk HP36
                    clear HP36
                    refine hK.out _ _ ⟨hHeld.1, ((HB.out.cell (World.block_lt_of_cell? w _ hw203_0)).trans hw203_0)⟩ (fun hHeld => ?_)
                    clear hK K
                    refine norm_ (a' := ?_) ?_ ?_
                    rotate_left
                    ·show Act.put _ (some 67) _ = _
                     simp only [Act.put, List.setIfInBounds_toArray, List.set_cons_zero, List.set_cons_succ, i64_w, i32_w]
                     rfl
                    refine pure_ (i := 14) (N := some 68) (v := ?_) (a' := ?_) #[true, true, true, true, true, true, true, true, true, true, true, true, true, true, true, false, false] rfl rfl (any_of HT_.out (by kernel_rfl)) (fun _ _ _ h => h) (Or.inl ⟨by rfl, ?_⟩) ?_ ?_
                    rotate_left
                    ·intro w'
                     go_simp
                     with_reducible rfl
                    rotate_left
                    ·simp only [Act.put, List.setIfInBounds_toArray, List.set_cons_zero, List.set_cons_succ, i64_w, i32_w]
                     rfl
                    refine pure_ (i := 15) (N := some 69) (v := ?_) (a' := ?_) #[true, true, true, true, true, true, true, true, true, true, true, true, true, true, true, true, false] rfl rfl (any_of HT_.out (by kernel_rfl)) (fun _ _ _ h => h) (Or.inl ⟨by rfl, ?_⟩) ?_ ?_
                    rotate_left
                    ·intro w'
                     go_simp
                     with_reducible rfl
                    rotate_left
                    ·simp only [Act.put, List.setIfInBounds_toArray, List.set_cons_zero, List.set_cons_succ, i64_w, i32_w]
                     rfl
                    refine last_ (i := 16) (N := none) #[true, true, true, true, true, true, true, true, true, true, true, true, true, true, true, true, true] rfl rfl (one_of HT_.out (by kernel_rfl)) (by decide) (fun K hK => ?_)
                    refine skip_ (w1 := ?_) (by rfl) rfl ?_ ?_
                    rotate_left
                    ·go_simp
                     rfl
                    refine hK.out _ _ ?_
                    clear hK K
                    refine done_ (done_of HT_.out (by kernel_rfl)) ?_
                    try go_wp2
                    (try simp only [← hl4_2, ← hl5_2])
                    (try rw [show (⟨go34, (x8_1 : Int).toNat, none⟩ : Addr) = Addr.add ⟨go34, 0, none⟩ (x8_1 : Int).toNat from by simp [Addr.add]])
                    go_roundg k2
                    case measure => have := HK1.out; have := HK2.out; omega
                    case rel => exact ⟨(y205), (wrap64 (x51_2 + 1)), (by first | rfl | (simp; done) | (simp [*]; done)), H', ⟨by have := HK1.out; have := HK2.out; omega⟩, ⟨by (try simp only [hl4_2]); (try simp only [hl5_2]); (with_reducible repeat (first | apply Kd.R_alloc | apply Kd.R_drewN | apply Kd.R_drew)); exact Kd.R_mono (Kd.R_far (p := ⟨go34, ((ji28) : Int).toNat, none⟩) (Kd.R_mono HO_4.out (fun k_ hk => (⟨hk, fun e_ => hk (by rw [e_]; rfl)⟩ : _ ∧ k_ ≠ go34))) (fun _ hk => hk.2) (.int .u8 (Go.bits .xor .u8 (rd x5_2 (ji28)) t204))) (fun _ hk => hk.1)⟩, ⟨by (try simp only [hl4_2]); (try simp only [hl5_2]); (with_reducible repeat (first | apply Kd.R_alloc | apply Kd.R_drewN | apply Kd.R_drew)); exact HQ36.out⟩, ⟨by repeat (first | (with_reducible first | exact HB.out | apply below_alloc | apply pw_below_drewN | apply below_drew1 | refine below_set ?_ GB34.out) | exact HB.out)⟩⟩
                   ·rw [if_neg c32] at H
                    exact absurd H (by simp)
                  ·rw [if_neg c31] at H
                   exact absurd H (by simp)
                 ·rw [if_neg c30] at H
                  exact absurd H (by simp)
                ·rw [if_neg c29] at H
                 exact absurd H (by simp)
               ·rw [if_neg c27] at H
                have c27b0 : decide (x51_2 < (wrap64 (t183 + 1))) = false := decide_eq_false c27
                clear c27
                have H' := Aside0.mk H
                clear H
                go_wp2
                (try simp only [← hl4_2, ← hl5_2])
                go_roundg k2
                case measure => have := HK1.out; have := HK2.out; omega
                case rel => exact ⟨(y201), (x5_2), (wrap64 (x8_1 - 1)), (by first | rfl | (simp; done) | (simp [*]; done)), H', ⟨by have := HK1.out; have := HK2.out; omega⟩, ⟨by (try simp only [hl4_2]); (try simp only [hl5_2]); (with_reducible repeat (first | apply Kd.R_alloc | apply Kd.R_drewN | apply Kd.R_drew)); exact HO_4.out⟩, ⟨by (try simp only [hl4_2]); (try simp only [hl5_2]); (with_reducible repeat (first | apply Kd.R_alloc | apply Kd.R_drewN | apply Kd.R_drew)); exact HO_5.out⟩, ⟨by repeat (first | (with_reducible first | exact HB.out | apply below_alloc | apply pw_below_drewN | apply below_drew1) | exact HB.out)⟩⟩
            ·rw [if_neg c21] at H
             exact absurd H (by simp)
           ·rw [if_neg c20] at H
            exact absurd H (by simp)
          ·rw [if_neg c17] at H
           exact absurd H (by simp)
         ·rw [if_neg c16] at H
          exact absurd H (by simp)
        ·rw [if_neg c15] at H
         exact absurd H (by simp)
       ·rw [if_neg c14] at H
        exact absurd H (by simp)
      ·rw [if_neg c13] at H
       have c13b0 : decide (t183 ≤ x8_1) = false := decide_eq_false c13
       clear c13
       replace H := Option.bind_eq_some_iff.mp H
       obtain ⟨t191, A370, H⟩ := H
       replace H : ((poly_Trim.f k1 x5_1).bind fun t194 => (some (t191, t194, true))) = some (r1, r2, r3) := H
       have A37 := Aside0.mk A370
       clear A370
       replace H := Option.bind_eq_some_iff.mp H
       obtain ⟨t194, A380, H⟩ := H
       replace H : (some (t191, t194, true)) = some (r1, r2, r3) := H
       have A38 := Aside0.mk A380
       clear A380
       simp only [Option.some.injEq, Prod.mk.injEq] at H
       obtain ⟨rfl, rfl, rfl⟩ := H
       obtain ⟨Ao39, co39, eo39⟩ := Kd.R_slice HO_4.out
       subst eo39
       go_wp2_with (first | ((with_reducible refine gate_callee (f := 40) rfl ?_); refine goesL_ (some 72) rfl rfl Try.func40 (by kernel_rfl) rfl #[.slice Ao39 x4_1.length co39] rfl (by (try simp only [List.map_toArray, List.map_cons, List.map_nil]); first | done | rfl | (simp only [List.length_drop, List.length_take]; rfl)) ?_; (with_reducible refine (poly_Trim.calls k1 _ _ x4_1 t191 _ ?side1 ?side2 A37.out).mono ?_); (case side1 => repeat (first | exact (Kd.R_reads' HO_4.out).2.2 | (with_reducible refine Kd.C_alloc ?_ _) | (with_reducible refine Kd.C_drewN ?_ _) | (with_reducible refine Kd.C_drew ?_))); (case side2 => exact (Kd.R_reads' HO_4.out).2.1); rintro e w40 ⟨v192, rfl, ho0, hb⟩; refine ⟨_, rfl, ?_⟩; have n0_ := Aside0.mk (Kd.R_elder' (by (with_reducible repeat (first | apply Kd.R_alloc | apply Kd.R_drewN | apply Kd.R_drew)); exact HO_4.out) (Kd.R_base ho0) hb); have n1_ := Aside0.mk (Kd.R_elder' (by (with_reducible repeat (first | apply Kd.R_alloc | apply Kd.R_drewN | apply Kd.R_drew)); exact HO_5.out) (Kd.R_base ho0) hb); have n2_ := Aside0.mk (Kd.R_lower (Kd.R_new' (Kd.R_new' ho0 (Kd.R_lt (by (with_reducible repeat (first | apply Kd.R_alloc | apply Kd.R_drewN | apply Kd.R_drew)); exact HO_4.out))) (Kd.R_lt (by (with_reducible repeat (first | apply Kd.R_alloc | apply Kd.R_drewN | apply Kd.R_drew)); exact HO_5.out))) (below_size (by repeat (first | (with_reducible first | exact HB.out | apply below_alloc | apply pw_below_drewN | apply below_drew1) | exact HB.out)))); have n3_ := Aside0.mk (below_step (by repeat (first | (with_reducible first | exact HB.out | apply below_alloc | apply pw_below_drewN | apply below_drew1) | exact HB.out)) hb); clear HO_4; clear HO_5; clear HB; have HO_4 := n0_; have HO_5 := n1_; have HO193 := n2_; have HB := n3_; clear n0_ n1_ n2_ n3_; (try clear hb); (try clear hb2); (try clear hk); (try clear hi); (try clear ho0); obtain ⟨Ao41, co41, eo41⟩ := Kd.R_slice HO_5.out; subst eo41) | ((with_reducible refine gate_callee (f := 40) rfl ?_); refine goesL_ (some 74) rfl rfl Try.func40 (by kernel_rfl) rfl #[.slice Ao41 x5_1.length co41] rfl (by (try simp only [List.map_toArray, List.map_cons, List.map_nil]); first | done | rfl | (simp only [List.length_drop, List.length_take]; rfl)) ?_; (with_reducible refine (poly_Trim.calls k1 _ _ x5_1 t194 _ ?side1 ?side2 A38.out).mono ?_); (case side1 => repeat (first | exact (Kd.R_reads' HO_5.out).2.2 | (with_reducible refine Kd.C_alloc ?_ _) | (with_reducible refine Kd.C_drewN ?_ _) | (with_reducible refine Kd.C_drew ?_))); (case side2 => exact (Kd.R_reads' HO_5.out).2.1); rintro e w42 ⟨v195, rfl, ho0, hb⟩; refine ⟨_, rfl, ?_⟩; have n0_ := Aside0.mk (Kd.R_elder' (by (with_reducible repeat (first | apply Kd.R_alloc | apply Kd.R_drewN | apply Kd.R_drew)); exact HO_4.out) (Kd.R_base ho0) hb); have n1_ := Aside0.mk (Kd.R_elder' (by (with_reducible repeat (first | apply Kd.R_alloc | apply Kd.R_drewN | apply Kd.R_drew)); exact HO_5.out) (Kd.R_base ho0) hb); have n2_ := Aside0.mk (Kd.R_elder' (by (with_reducible repeat (first | apply Kd.R_alloc | apply Kd.R_drewN | apply Kd.R_drew)); exact HO193.out) (Kd.R_base ho0) hb); have n3_ := Aside0.mk (Kd.R_lower (Kd.R_new' (Kd.R_new' (Kd.R_new' ho0 (Kd.R_lt (by (with_reducible repeat (first | apply Kd.R_alloc | apply Kd.R_drewN | apply Kd.R_drew)); exact HO_4.out))) (Kd.R_lt (by (with_reducible repeat (first | apply Kd.R_alloc | apply Kd.R_drewN | apply Kd.R_drew)); exact HO_5.out))) (Kd.R_lt (by (with_reducible repeat (first | apply Kd.R_alloc | apply Kd.R_drewN | apply Kd.R_drew)); exact HO193.out))) (below_size (by repeat (first | (with_reducible first | exact HB.out | apply below_alloc | apply pw_below_drewN | apply below_drew1) | exact HB.out)))); have n4_ := Aside0.mk (below_step (by repeat (first | (with_reducible first | exact HB.out | apply below_alloc | apply pw_below_drewN | apply below_drew1) | exact HB.out)) hb); clear HO_4; clear HO_5; clear HO193; clear HB; have HO_4 := n0_; have HO_5 := n1_; have HO193 := n2_; have HO196 := n3_; have HB := n4_; clear n0_ n1_ n2_ n3_ n4_; (try clear hb); (try clear hb2); (try clear hk); (try clear hi); (try clear ho0)))
       go_ret3
       exact ⟨_, _, by first | rfl | (simp [errW_none, errW_some] <;> rfl) | (simp only [← hji6]; first | rfl | (simp [errW_none, errW_some] <;> rfl)) | (simp [*, errW_none, errW_some] <;> rfl), by (with_reducible repeat (first | apply Kd.R_alloc | apply Kd.R_drewN | apply Kd.R_drew)); exact Kd.R_mono HO193.out (fun _ hk => hk.2), by (with_reducible repeat (first | apply Kd.R_alloc | apply Kd.R_drewN | apply Kd.R_drew)); exact Kd.R_mono HO196.out (fun _ hk => hk.2), by repeat (first | (with_reducible first | exact HB.out | apply below_alloc | apply pw_below_drewN | apply below_drew1) | exact HB.out)⟩
   ·rw [if_neg c8] at H
    exact absurd H (by simp)
  ·rw [if_neg c7] at H
   exact absurd H (by simp)
end Go.Proofs.Ytndljfagojnidaa.P
namespace Go.Proofs.Ytndljfagojnidaa.P
open Go.RowKit Go.Proofs.YtndljfagojnidaaW.PrintWords Go.Proofs.YtndljfagojnidaaW.PrintLast Go.Proofs.YtndljfagojnidaaW.PrintMore
attribute [local go_sem] max2_int min2_int max_two min_two max_three min_three max_four min_four
set_option linter.unusedVariables false
set_option linter.unusedSimpArgs false
def NilIf (r : List Int) (v : Value) : Prop := r = [] → v = .slice none 0 0
theorem NilIf.some {r : List Int} {v : Value} (h : 0 < r.length) : NilIf r v := fun e => by rw [e] at h; exact absurd h (by decide)
def welch_guess.f (k : Nat) (l0 : List Int) (l1 : List Bool) (a2 a3 : Int) : Option (List Int) :=
 (welch_equations.f k l0 l1 a2 a3).bind fun t => (linear_Solve.f k t.1 t.2).bind fun s => if s.2 = true then (if 0 ≤ a3 then (if a3 ≤ (s.1.length : Int) then (if s.1.length < 140737488355327 then
  ((poly_DivMod.f k (s.1.drop a3.toNat) (s.1.take a3.toNat ++ [1])).bind fun d => if d.2.1.length = 0 then (if (d.1.length : Int) ≤ a2 then (if 1 ≤ a2 then (if a2 < 140737488355328 then some (d.1 ++ List.replicate (wrap64 (a2 - (d.1.length : Int))).toNat 0) else none) else none) else some []) else some []) else none) else none) else none) else some []
set_option maxHeartbeats 8000000 in
set_option maxRecDepth 100000 in
theorem welch_guess.calls (k : Nat) (A0 : Option Addr) (c0 : Nat) (l0 : List Int) (A1 : Option Addr) (c1 : Nat) (l1 : List Bool) (a2 : Int) (a3 : Int) (r : List Int) (w : World) (hr0 : Kd.C (Kd.int .u8) w A0 l0.length l0) (hc0 : l0.length ≤ c0) (hr1 : Kd.C Kd.bool w A1 l1.length l1) (hc1 : l1.length ≤ c1) (h : welch_guess.f k l0 l1 a2 a3 = some r) :
 Calls Try.prog 18 #[.slice A0 l0.length c0, .slice A1 l1.length c1, .int .i64 a2, .int .i64 a3] w fun e w' => ∃ v0_ : Value, e = .returned v0_ ∧ Kd.R (Kd.int .u8) 5 w' w.heap.size (fun _ => True) v0_ r ∧ NilIf r v0_ ∧ Below w.heap.size w w' := by
 have HR0 := Aside0.mk hr0
 have HC0 := Aside0.mk hc0
 have HR1 := Aside0.mk hr1
 have HC1 := Aside0.mk hc1
 clear hr0 hc0 hr1 hc1
 have HB := Aside0.mk (Below.refl w.heap.size w)
 unfold welch_guess.f at h
 replace h := Option.bind_eq_some_iff.mp h
 obtain ⟨⟨q1, q2⟩, hq, h⟩ := h
 replace h := Option.bind_eq_some_iff.mp h
 obtain ⟨⟨s1, s2⟩, hs, h⟩ := h
 dsimp only at hs h
 have HQ := Aside0.mk hq
 have HS := Aside0.mk hs
 clear hq hs
 cases s2 with
 | false =>
  rw [if_neg (by decide)] at h
  obtain rfl := Option.some.inj h
  go_enter Try.func18, Try.ntmps18
  go_wp2_with (first
   | (go_at_call 25; (with_reducible refine (welch_equations.calls k _ _ l0 _ _ l1 a2 a3 q1 q2 _ HR0.out HC0.out HR1.out HC1.out HQ.out).mono ?_); rintro e w1 ⟨v0, v1, rfl, ho0, ho1, hb⟩; have HO0 := Aside0.mk ho0; have HO1 := Aside0.mk ho1; have HB1 := Aside0.mk hb; clear ho0 ho1 hb; obtain ⟨Aq0, cq0, eq0⟩ := Kd.S_slice HO0.out; subst eq0; obtain ⟨Aq1, cq1, eq1⟩ := Kd.R_slice HO1.out; subst eq1)
   | (go_at_call 24; (with_reducible refine (linear_Solve.calls k _ _ q1 _ _ q2 s1 false _ (Kd.S_reads' HO0.out).2.2 (Kd.S_reads' HO0.out).2.1 (Kd.R_reads' HO1.out).2.2 (Kd.R_reads' HO1.out).2.1 HS.out).mono ?_); rintro e w2 ⟨v2, rfl, ho2, hb2⟩; have HB2 := Aside0.mk hb2; clear ho2 hb2))
  go_ret
  exact ⟨_, rfl, Kd.R_nil _ _ _ _ _, fun _ => rfl, below_step HB1.out HB2.out⟩
 | true =>
  rw [if_pos rfl] at h
  by_cases p1 : 0 ≤ a3
  ·rw [if_pos p1] at h
   by_cases p2 : a3 ≤ (s1.length : Int)
   ·rw [if_pos p2] at h
    by_cases p3 : s1.length < 140737488355327
    ·rw [if_pos p3] at h
     replace h := Option.bind_eq_some_iff.mp h
     obtain ⟨⟨d1, d2, d3⟩, hd, h⟩ := h
     dsimp only at h
     obtain ⟨en, rfl⟩ : ∃ n : Nat, a3 = n := ⟨a3.toNat, by omega⟩
     rw [Int.toNat_natCast] at hd
     obtain ⟨sd, hsd⟩ : ∃ l, l = s1.drop en := ⟨_, rfl⟩
     obtain ⟨st, hst⟩ : ∃ l, l = s1.take en := ⟨_, rfl⟩
     obtain ⟨sa, hsa⟩ : ∃ l, l = st ++ [1] := ⟨_, rfl⟩
     rw [← hsd, ← hst, ← hsa] at hd
     have hsdl : sd.length = s1.length - en := by rw [hsd, List.length_drop]
     have hstl : st.length = en := by rw [hst, List.length_take]; omega
     have hxx := Option.map_eq_some_iff.1 info5
     obtain ⟨i5, hi5, hi5b⟩ := hxx
     have HI := Aside0.mk (show i5.size = 1 from (by simpa using hi5b : _ ∧ _ ∧ _).2.1)
     have HI5 := Aside0.mk hi5
     clear hi5 hi5b
     have HP1 := Aside0.mk p1
     have HP2 := Aside0.mk p2
     have HP3 := Aside0.mk p3
     have HD := Aside0.mk hd
     have HSD := Aside0.mk hsd
     have HST := Aside0.mk hst
     have HSA := Aside0.mk hsa
     have HSDL := Aside0.mk hsdl
     have HSTL := Aside0.mk hstl
     have H := Aside0.mk h
     clear p1 p2 p3 hd hsd hst hsa hsdl hstl h
     go_enter Try.func18, Try.ntmps18
     go_wp2_with (first
      | (go_at_call 25; (with_reducible refine (welch_equations.calls k _ _ l0 _ _ l1 a2 (en : Int) q1 q2 _ HR0.out HC0.out HR1.out HC1.out HQ.out).mono ?_); rintro e w1 ⟨v0, v1, rfl, ho0, ho1, hb⟩; have HO0 := Aside0.mk ho0; have HO1 := Aside0.mk ho1; have HB1 := Aside0.mk hb; clear ho0 ho1 hb; obtain ⟨Aq0, cq0, eq0⟩ := Kd.S_slice HO0.out; subst eq0; obtain ⟨Aq1, cq1, eq1⟩ := Kd.R_slice HO1.out; subst eq1)
      | (go_at_call 24; (with_reducible refine (linear_Solve.calls k _ _ q1 _ _ q2 s1 true _ (Kd.S_reads' HO0.out).2.2 (Kd.S_reads' HO0.out).2.1 (Kd.R_reads' HO1.out).2.2 (Kd.R_reads' HO1.out).2.1 HS.out).mono ?_); rintro e w2 ⟨v2, rfl, ho2, hb2⟩; have HB2 := Aside0.mk (below_step HB1.out hb2); have HO2 := Aside0.mk ho2; clear ho2 hb2 HO0 HO1; obtain ⟨Ax, cx, ex⟩ := Kd.R_slice HO2.out; subst ex))
     have hxl := (Kd.R_reads' HO2.out).2.1
     have hxC := (Kd.R_reads' HO2.out).2.2
     obtain ⟨A3, hA3⟩ : ∃ A : Option Addr, (if cx = en then Ax else Ax.map (·.add (en * 1))) = A := ⟨_, rfl⟩
     have hCD : Kd.C (Kd.int .u8) w2 A3 sd.length sd := by
      have := Kd.C_drop (c := cx) hxC (m := en) (by have := HP2.out; omega) hxl
      rw [← HSD.out] at this
      have e1 : (Kd.int .u8).sz = 1 := rfl
      rw [e1, hA3] at this
      exact this
     have hCT : Kd.C (Kd.int .u8) w2 Ax en st := by
      have := Kd.C_take hxC (m := en) (by have := HP2.out; omega)
      rw [← HST.out, HSTL.out] at this
      exact this
     have hcut1 : ∀ W : World, (Instr.slice 22 (.slice Ax s1.length cx) (some (.int .i64 (en : Int))) none none).run Try.prog W = .ok (.slice A3 sd.length (cx - en)) W := by
      intro W
      rw [cut_from 22 5 .i64 Try.underlying22 HI5.out 1 HI.out Ax s1.length cx (en : Int) (by omega) HP2.out W, Int.toNat_natCast, hA3, HSDL.out]
     have hcut2 : ∀ W : World, (Instr.slice 22 (.slice Ax s1.length cx) none (some (.int .i64 (en : Int))) (some (.int .i64 (en : Int)))).run Try.prog W = .ok (.slice Ax en en) W := by
      intro W
      rw [Mm.cut_cap 22 5 .i64 .i64 Try.underlying22 HI5.out Ax s1.length cx (en : Int) (by omega) HP2.out hxl W, Int.toNat_natCast]
     have HCD := Aside0.mk hCD
     have HCT := Aside0.mk hCT
     have HDC := Aside0.mk (show sd.length ≤ cx - en by rw [HSDL.out]; omega)
     have HLE := Aside0.mk (show (en + 1) * 1 ≤ 140737488355328 by have := HP3.out; have := HP2.out; omega)
     clear hxl hxC hCD hCT hA3
     refine start_ (n := 17) (S := fun w' => True) (ds := []) #[false, false, false, false, false, false, false, false, false, false, false, false, false, false, false, false, false] (by kernel_rfl) rfl rfl trivial (fun hHeld => ?_)
     refine pure_ (i := 0) (N := some 28) (v := ?_) (a' := ?_) #[true, false, false, false, false, false, false, false, false, false, false, false, false, false, false, false, false] rfl rfl (by kernel_rfl) (fun _ _ _ h => h) (Or.inl ⟨by rfl, ?_⟩) ?_ ?_
     rotate_left
     ·intro w'
      go_simp
      with_reducible rfl
     rotate_left
     ·simp only [Act.put, List.setIfInBounds_toArray, List.set_cons_zero, List.set_cons_succ, i64_w, i32_w]
      rfl
     refine pure_ (i := 1) (N := some 29) (v := ?_) (a' := ?_) #[true, true, false, false, false, false, false, false, false, false, false, false, false, false, false, false, false] rfl rfl (by kernel_rfl) (fun _ _ _ h => h) (Or.inl ⟨by rfl, ?_⟩) ?_ ?_
     rotate_left
     ·intro w'
      go_simp
      with_reducible rfl
     rotate_left
     ·simp only [Act.put, List.setIfInBounds_toArray, List.set_cons_zero, List.set_cons_succ, i64_w, i32_w]
      rfl
     refine pure_ (i := 2) (N := some 30) (v := ?_) (a' := ?_) #[true, true, true, false, false, false, false, false, false, false, false, false, false, false, false, false, false] rfl rfl (by kernel_rfl) (fun _ _ _ h => h) (Or.inl ⟨by rfl, ?_⟩) ?_ ?_
     rotate_left
     ·intro w'
      go_simp
      with_reducible rfl
     rotate_left
     ·simp only [Act.put, List.setIfInBounds_toArray, List.set_cons_zero, List.set_cons_succ, i64_w, i32_w]
      rfl
     refine pure_ (i := 3) (N := some 31) (v := ?_) (a' := ?_) #[true, true, true, true, false, false, false, false, false, false, false, false, false, false, false, false, false] rfl rfl (by kernel_rfl) (fun _ _ _ h => h) (Or.inl ⟨by rfl, ?_⟩) ?_ ?_
     rotate_left
     ·intro w'
      go_simp
      with_reducible rfl
     rotate_left
     ·simp only [Act.put, List.setIfInBounds_toArray, List.set_cons_zero, List.set_cons_succ, i64_w, i32_w]
      rfl
     refine pure_ (i := 4) (N := some 32) (v := ?_) (a' := ?_) #[true, true, true, true, true, false, false, false, false, false, false, false, false, false, false, false, false] rfl rfl (by kernel_rfl) (fun _ _ _ h => h) (Or.inl ⟨by rfl, ?_⟩) ?_ ?_
     rotate_left
     ·intro w'
      go_simp
      with_reducible rfl
     rotate_left
     ·simp only [Act.put, List.setIfInBounds_toArray, List.set_cons_zero, List.set_cons_succ, i64_w, i32_w]
      rfl
     refine pure_ (i := 5) (N := some 33) (v := ?_) (a' := ?_) #[true, true, true, true, true, true, false, false, false, false, false, false, false, false, false, false, false] rfl rfl (by kernel_rfl) (fun _ _ _ h => h) (Or.inl ⟨by rfl, ?_⟩) ?_ ?_
     rotate_left
     ·intro w'
      go_simp
      with_reducible rfl
     rotate_left
     ·simp only [Act.put, List.setIfInBounds_toArray, List.set_cons_zero, List.set_cons_succ, i64_w, i32_w]
      rfl
     refine pure_ (i := 6) (N := some 34) (v := ?_) (a' := ?_) #[true, true, true, true, true, true, true, false, false, false, false, false, false, false, false, false, false] rfl rfl (by kernel_rfl) (fun _ _ _ h => h) (Or.inl ⟨by rfl, ?_⟩) ?_ ?_
     rotate_left
     ·intro w'
      go_simp
      with_reducible rfl
     rotate_left
     ·simp only [Act.put, List.setIfInBounds_toArray, List.set_cons_zero, List.set_cons_succ, i64_w, i32_w]
      rfl
     refine one_ (i := 7) (N := some 35) #[true, true, true, true, true, true, true, true, false, false, false, false, false, false, false, false, false] rfl rfl (by kernel_rfl) (by decide) (fun K hK => ?_)
     refine value_ (w1 := ?_) (v := ?_) (by rfl) rfl ?_ ?_
     rotate_left 2
     ·go_simp
      constructor
      ·rfl
      ·rfl
     refine hK.out _ _ trivial (fun hHeld => ?_)
     clear hK K
     refine norm_ (a' := ?_) ?_ ?_
     rotate_left
     ·show Act.put _ (some 35) _ = _
      simp only [Act.put, List.setIfInBounds_toArray, List.set_cons_zero, List.set_cons_succ, i64_w, i32_w]
      rfl
     refine one_ (i := 8) (N := some 36) #[true, true, true, true, true, true, true, true, true, false, false, false, false, false, false, false, false] rfl rfl (by kernel_rfl) (by decide) (fun K hK => ?_)
     refine Mm.append_full_step .u8 (by rfl) (.tmp 34) (.tmp 35) 22 5 (.int .u8 0) 1 (by rfl) Try.underlying22 info5 rfl (by decide) Ax en st 1 (by rfl) (by rfl) (Kd.C_drew HCT.out) HLE.out ?_
     intro v4 w4 ho4 hb4
     rw [← HSA.out] at ho4
     have HO4 := Aside0.mk ho4
     have HB4 := Aside0.mk hb4
     clear ho4 hb4
     obtain ⟨A4, c4, e4⟩ := Kd.R_slice HO4.out
     subst e4
     refine hK.out _ _ trivial (fun hHeld => ?_)
     clear hK K
     refine norm_ (a' := ?_) ?_ ?_
     rotate_left
     ·show Act.put _ (some 36) _ = _
      simp only [Act.put, List.setIfInBounds_toArray, List.set_cons_zero, List.set_cons_succ, i64_w, i32_w]
      rfl
     refine one_ (i := 9) (N := some 37) #[true, true, true, true, true, true, true, true, true, true, false, false, false, false, false, false, false] rfl rfl (by kernel_rfl) (by decide) (fun K hK => ?_)
     refine goes_ Try.func26 (by kernel_rfl) rfl #[.slice A3 sd.length (cx - en), .slice A4 (sa).length c4] (by rfl) rfl rfl (by simp only [List.map_toArray, List.map_cons, List.map_nil]; rfl) ?_
     with_reducible refine (poly_DivMod.calls k A3 (cx - en) sd A4 c4 (sa) d1 d2 d3 _ (Kd.C_below (Kd.C_drew HCD.out) HB4.out) HDC.out (Kd.R_reads' HO4.out).2.2 (Kd.R_reads' HO4.out).2.1 HD.out).mono ?_
     rintro e w5 ⟨v5, v6, rfl, ho5, ho6, hb5⟩
     refine ⟨_, rfl, ?_⟩
     have HO5 := Aside0.mk ho5
     have HO6 := Aside0.mk ho6
     have HB5 := Aside0.mk hb5
     clear ho5 ho6 hb5
     refine hK.out _ _ trivial (fun hHeld => ?_)
     clear hK K
     refine norm_ (a' := ?_) ?_ ?_
     rotate_left
     ·show Act.put _ (some 37) _ = _
      simp only [Act.put, List.setIfInBounds_toArray, List.set_cons_zero, List.set_cons_succ, i64_w, i32_w]
      rfl
     refine pure_ (i := 10) (N := some 27) (v := ?_) (a' := ?_) #[true, true, true, true, true, true, true, true, true, true, true, false, false, false, false, false, false] rfl rfl (by kernel_rfl) (fun _ _ _ h => h) (Or.inl ⟨by rfl, ?_⟩) ?_ ?_
     rotate_left
     ·intro w'
      go_simp
      with_reducible rfl
     rotate_left
     ·simp only [Act.put, List.setIfInBounds_toArray, List.set_cons_zero, List.set_cons_succ, i64_w, i32_w]
      rfl
     refine pure_ (i := 11) (N := some 38) (v := ?_) (a' := ?_) #[true, true, true, true, true, true, true, true, true, true, true, true, false, false, false, false, false] rfl rfl (by kernel_rfl) (fun _ _ _ h => h) (Or.inl ⟨by rfl, ?_⟩) ?_ ?_
     rotate_left
     ·intro w'
      go_simp
      with_reducible rfl
     rotate_left
     ·simp only [Act.put, List.setIfInBounds_toArray, List.set_cons_zero, List.set_cons_succ, i64_w, i32_w]
      rfl
     refine pure_ (i := 12) (N := some 39) (v := ?_) (a' := ?_) #[true, true, true, true, true, true, true, true, true, true, true, true, true, false, false, false, false] rfl rfl (by kernel_rfl) (fun _ _ _ h => h) (Or.inl ⟨by rfl, ?_⟩) ?_ ?_
     rotate_left
     ·intro w'
      go_simp
      with_reducible rfl
     rotate_left
     ·simp only [Act.put, List.setIfInBounds_toArray, List.set_cons_zero, List.set_cons_succ, i64_w, i32_w]
      rfl
     refine pure_ (i := 13) (N := some 40) (v := ?_) (a' := ?_) #[true, true, true, true, true, true, true, true, true, true, true, true, true, true, false, false, false] rfl rfl (by kernel_rfl) (fun _ _ _ h => h) (Or.inl ⟨by rfl, ?_⟩) ?_ ?_
     rotate_left
     ·intro w'
      go_simp
      with_reducible rfl
     rotate_left
     ·simp only [Act.put, List.setIfInBounds_toArray, List.set_cons_zero, List.set_cons_succ, i64_w, i32_w]
      rfl
     refine pure_ (i := 14) (N := some 11) (v := ?_) (a' := ?_) #[true, true, true, true, true, true, true, true, true, true, true, true, true, true, true, false, false] rfl rfl (by kernel_rfl) (fun _ _ _ h => h) (Or.inl ⟨by rfl, ?_⟩) ?_ ?_
     rotate_left
     ·intro w'
      go_simp
      with_reducible rfl
     rotate_left
     ·simp only [Act.put, List.setIfInBounds_toArray, List.set_cons_zero, List.set_cons_succ, i64_w, i32_w]
      rfl
     refine pure_ (i := 15) (N := some 12) (v := ?_) (a' := ?_) #[true, true, true, true, true, true, true, true, true, true, true, true, true, true, true, true, false] rfl rfl (by kernel_rfl) (fun _ _ _ h => h) (Or.inl ⟨by rfl, ?_⟩) ?_ ?_
     rotate_left
     ·intro w'
      go_simp
      with_reducible rfl
     rotate_left
     ·simp only [Act.put, List.setIfInBounds_toArray, List.set_cons_zero, List.set_cons_succ, i64_w, i32_w]
      rfl
     refine pure_ (i := 16) (N := some 13) (v := ?_) (a' := ?_) #[true, true, true, true, true, true, true, true, true, true, true, true, true, true, true, true, true] rfl rfl (by kernel_rfl) (fun _ _ _ h => h) (Or.inl ⟨by rfl, ?_⟩) ?_ ?_
     rotate_left
     ·intro w'
      go_simp
      with_reducible rfl
     rotate_left
     ·simp only [Act.put, List.setIfInBounds_toArray, List.set_cons_zero, List.set_cons_succ, i64_w, i32_w]
      rfl
     refine done_ (by kernel_rfl) ?_
     clear hcut1 hcut2
     have HB6 := Aside0.mk (below_step (below_step (below_drew1 HB2.out) HB4.out) HB5.out)
     have hlow : w.heap.size ≤ w4.heap.size := Nat.le_trans (below_size (below_drew1 HB2.out)) (below_size HB4.out)
     have HO5' := Aside0.mk (Kd.R_lower HO5.out hlow)
     clear HB HB2 HB4 HB5 HO2 HO4 HO5 HCD HCT
     obtain ⟨A5, c5, e5⟩ := Kd.R_slice HO5'.out
     subst e5
     obtain ⟨A6, c6, e6⟩ := Kd.R_slice HO6.out
     subst e6
     have HL5 := Aside0.mk (Kd.R_reads' HO5'.out).2.2.2.1
     clear hlow
     have hh := H.out
     clear H
     by_cases t1 : d2.length = 0
     ·rw [if_pos t1] at hh
      have t1a : decide (0 < d2.length) = false := decide_eq_false (by omega)
      have t1b : decide ((0 : Int) < (d2.length : Int)) = false := decide_eq_false (by omega)
      have t1c : decide ((d2.length : Int) > 0) = false := decide_eq_false (by omega)
      clear t1
      by_cases t2 : (d1.length : Int) ≤ a2
      ·rw [if_pos t2] at hh
       by_cases t3 : 1 ≤ a2
       ·rw [if_pos t3] at hh
        by_cases t4 : a2 < 140737488355328
        ·rw [if_pos t4] at hh
         have t2a : decide (a2 < (d1.length : Int)) = false := decide_eq_false (by omega)
         have t2b : decide ((d1.length : Int) > a2) = false := decide_eq_false (by omega)
         obtain ⟨m, hm⟩ : ∃ m, wrap64 (a2 - (d1.length : Int)) = m := ⟨_, rfl⟩
         have hm0 : m = a2 - (d1.length : Int) := by rw [← hm]; unfold wrap64; omega
         have hmw : IntKind.i64.wrap (a2 - (d1.length : Int)) = m := (i64_w _).trans hm
         rw [hm] at hh
         have HM := Aside0.mk (show 0 ≤ m ∧ (d1.length + m.toNat) * 1 ≤ 140737488355328 ∧ 0 < d1.length + m.toNat by omega)
         obtain rfl := Option.some.inj hh
         clear t2 t3 t4 hh hm0
         go_wp2_with (first
          | ((with_reducible refine gate_builtin (b := .append) (xs := #[.tmp 50, .tmp 54]) rfl ?_); at_builtin; refine Kd.R_append_zeros (Kd.int .u8) (w0 := w) w.heap.size rfl (.tmp 50) (.tmp 54) 22 3 5 (.int .u8 0) 1 rfl Try.underlying22 Try.underlying3 info5 rfl (by decide) (by decide) (.slice A5 d1.length c5) d1 0 m (fun _ => True) rfl rfl rfl (fun _ _ => trivial) (Kd.R_mono HO5'.out (fun _ _ => trivial)) HM.out.1 HB6.out (below_size HB6.out) HM.out.2.1 ?_; intro v7 w7 ho7 hb7 hg7 hat7; have HO7 := Aside0.mk ho7; have HB7 := Aside0.mk hb7; clear ho7 hb7 hg7 hat7))
         go_ret
         exact ⟨_, rfl, HO7.out, NilIf.some (by rw [List.length_append, List.length_replicate]; exact HM.out.2.2), HB7.out⟩
        ·rw [if_neg t4] at hh
         exact absurd hh (by simp)
       ·rw [if_neg t3] at hh
        exact absurd hh (by simp)
      ·rw [if_neg t2] at hh
       have t2a : decide (a2 < (d1.length : Int)) = true := decide_eq_true (by omega)
       have t2b : decide ((d1.length : Int) > a2) = true := decide_eq_true (by omega)
       obtain rfl := Option.some.inj hh
       clear t2 hh
       go_wp2
       go_ret
       exact ⟨_, rfl, Kd.R_nil _ _ _ _ _, fun _ => rfl, HB6.out⟩
     ·rw [if_neg t1] at hh
      have t1a : decide (0 < d2.length) = true := decide_eq_true (by omega)
      have t1b : decide ((0 : Int) < (d2.length : Int)) = true := decide_eq_true (by omega)
      have t1c : decide ((d2.length : Int) > 0) = true := decide_eq_true (by omega)
      clear t1
      obtain rfl := Option.some.inj hh
      clear hh
      go_wp2
      go_ret
      exact ⟨_, rfl, Kd.R_nil _ _ _ _ _, fun _ => rfl, HB6.out⟩
    ·rw [if_neg p3] at h
     exact absurd h (by simp)
   ·rw [if_neg p2] at h
    exact absurd h (by simp)
  ·rw [if_neg p1] at h
   exact absurd h (by simp)
def poly_Eval.l0 : Nat → List Int → Int → Int → Int → Option (Int)
 | 0, _, _, _, _ => none
 | k + 1, x0, x1, x5, x6 => if x6 ≥ 0 then ((gf_Mul.f k x5 x1).bind fun t206 => (if 0 ≤ x6 then (if x6 < (x0.length : Int) then (poly_Eval.l0 k x0 x1 (Go.bits .xor .u8 t206 (rd x0 x6)) (wrap64 (x6 - 1))) else (none)) else (none))) else (some x5)
def poly_Eval.f (k : Nat) (l0 : List Int) (a1 : Int) : Option (Int) := poly_Eval.l0 k l0 a1 0 (wrap64 ((l0.length : Int) - 1))
theorem poly_Eval.mono_l : ∀ k, (∀ y0 y1 y2 y3, LeO (poly_Eval.l0 k y0 y1 y2 y3) (poly_Eval.l0 (k + 1) y0 y1 y2 y3))
 | 0 => fun _ _ _ _ r h => by simp [poly_Eval.l0] at h
 | k + 1 => by
  have ih0 := poly_Eval.mono_l k
  ·intro y0 y1 y2 y3
   unfold poly_Eval.l0
   repeat' first
   | (with_reducible exact ih0 _ _ _ _)
   | (with_reducible exact gf_Mul.mono _ _ _)
   | (with_reducible exact LeO.refl _)
   | (with_reducible exact LeO.none _)
   | (with_reducible refine LeO.ite ?_ ?_)
   | (with_reducible refine LeO.bind ?_ (fun _ => ?_))
   | exact ih0 _ _ _ _
   | exact gf_Mul.mono _ _ _
   | exact LeO.none _
   | refine LeO.ite ?_ ?_
   | refine LeO.bind ?_ (fun _ => ?_)
theorem poly_Eval.mono : ∀ a0 a1 k, LeO (poly_Eval.f k a0 a1) (poly_Eval.f (k + 1) a0 a1) := by
 intro a0 a1 k
 have ih0 := poly_Eval.mono_l k
 unfold poly_Eval.f
 repeat' first
  | (with_reducible exact ih0 _ _ _ _)
  | (with_reducible exact gf_Mul.mono _ _ _)
  | (with_reducible exact LeO.refl _)
  | (with_reducible exact LeO.none _)
  | (with_reducible refine LeO.ite ?_ ?_)
  | (with_reducible refine LeO.bind ?_ (fun _ => ?_))
  | exact ih0 _ _ _ _
  | exact gf_Mul.mono _ _ _
  | exact LeO.none _
  | refine LeO.ite ?_ ?_
  | refine LeO.bind ?_ (fun _ => ?_)
set_option maxHeartbeats 8000000 in
set_option maxRecDepth 100000 in
theorem poly_Eval.calls (k : Nat) (A0 : Option Addr) (c0 : Nat) (l0 : List Int) (a1 : Int) (r : Int) (w : World) (hr0 : Kd.C (Kd.int .u8) w A0 l0.length l0) (hc0 : l0.length ≤ c0) (h : poly_Eval.f k l0 a1 = some r) :
 Calls Try.prog 27 #[.slice A0 l0.length c0, .int .u8 a1] w fun e w' => e = .returned (.int .u8 r) ∧ Drawn0 w w' := by
 have HR0 := Aside0.mk hr0
 have HC0 := Aside0.mk hc0
 clear hr0 hc0
 have H : (poly_Eval.l0 k l0 a1 0 (wrap64 ((l0.length : Int) - 1))) = some r := h
 clear h
 have H' := Aside0.mk H
 clear H
 go_enter Try.func27, Try.ntmps27
 go_wp2
 repeat (go_quiet (fail); try go_wp2)
 go_loopg [5, 6] k (fun kq v5 v6 w' => ∃ (x5_1 : Int) (x6_1 : Int), v5 = .int .u8 x5_1 ∧ v6 = .int .i64 x6_1 ∧ Aside0 (poly_Eval.l0 kq l0 a1 x5_1 x6_1 = some r) ∧ Aside0 (kq ≤ k) ∧ Drawn0 w w')
 case atStart => exact ⟨(0), (wrap64 ((l0.length : Int) - 1)), (by first | rfl | (simp; done) | (simp [*]; done)), (by first | rfl | (simp; done) | (simp [*]; done)), H', ⟨Nat.le_refl _⟩, by repeat (first | exact Drawn0.refl _ | apply Drawn0.step)⟩
 case round =>
  clear H'
  try clear c2
  try clear p2
  obtain ⟨x5_1, x6_1, rfl, rfl, HA, HK1, ⟨m1, rfl⟩⟩ := hrel
  cases gk with
  | zero => exact absurd HA.out (by simp [poly_Eval.l0])
  | succ k1 =>
   have H := HA.out
   clear HA
   simp only [poly_Eval.l0] at H
   by_cases c3 : x6_1 ≥ 0
   ·rw [if_pos c3] at H
    have c3b0 : decide (0 ≤ x6_1) = true := decide_eq_true c3
    clear c3
    replace H := Option.bind_eq_some_iff.mp H
    obtain ⟨t206, A40, H⟩ := H
    replace H : (if 0 ≤ x6_1 then (if x6_1 < (l0.length : Int) then (poly_Eval.l0 k1 l0 a1 (Go.bits .xor .u8 t206 (rd l0 x6_1)) (wrap64 (x6_1 - 1))) else (none)) else (none)) = some r := H
    have A4 := Aside0.mk A40
    clear A40
    by_cases c5 : 0 ≤ x6_1
    ·rw [if_pos c5] at H
     have c5b0 : decide (0 ≤ x6_1) = true := decide_eq_true c5
     clear c5
     by_cases c6 : x6_1 < (l0.length : Int)
     ·rw [if_pos c6] at H
      have c6b0 : decide (x6_1 < (l0.length : Int)) = true := decide_eq_true c6
      clear c6
      have H' := Aside0.mk H
      clear H
      go_wp2_with (first | (go_at_call 35; (with_reducible refine (gf_Mul.calls k1 x5_1 a1 t206 _ A4.out).mono ?_); rintro e w' ⟨rfl, ⟨nd, rfl⟩⟩; (try first | exact ⟨rfl, _, World.drewN_drewN _ _ _⟩ | exact ⟨rfl, _, Eq.trans (World.drewN_drewN _ _ _) (congrArg (World.drewN _) (Nat.add_assoc _ _ _))⟩); have p207 : 0 ≤ (x6_1 : Int) := of_decide_eq_true (by first | (with_reducible assumption) | assumption); have q207 : x6_1 < (l0.length : Int) := of_decide_eq_true (by first | (with_reducible assumption) | assumption); obtain ⟨ad207, e207, hx207_0⟩ := Kd.at_int HR0.out x6_1 p207 q207; cases e207; replace p207 := eq_true p207; replace q207 := eq_true q207))
      repeat (go_quiet (first | (go_at_call 35; (with_reducible refine (gf_Mul.calls k1 x5_1 a1 t206 _ A4.out).mono ?_); rintro e w' ⟨rfl, ⟨nd, rfl⟩⟩; (try first | exact ⟨rfl, _, World.drewN_drewN _ _ _⟩ | exact ⟨rfl, _, Eq.trans (World.drewN_drewN _ _ _) (congrArg (World.drewN _) (Nat.add_assoc _ _ _))⟩); have p207 : 0 ≤ (x6_1 : Int) := of_decide_eq_true (by first | (with_reducible assumption) | assumption); have q207 : x6_1 < (l0.length : Int) := of_decide_eq_true (by first | (with_reducible assumption) | assumption); obtain ⟨ad207, e207, hx207_0⟩ := Kd.at_int HR0.out x6_1 p207 q207; cases e207; replace p207 := eq_true p207; replace q207 := eq_true q207)); try go_wp2_with (first | (go_at_call 35; (with_reducible refine (gf_Mul.calls k1 x5_1 a1 t206 _ A4.out).mono ?_); rintro e w' ⟨rfl, ⟨nd, rfl⟩⟩; (try first | exact ⟨rfl, _, World.drewN_drewN _ _ _⟩ | exact ⟨rfl, _, Eq.trans (World.drewN_drewN _ _ _) (congrArg (World.drewN _) (Nat.add_assoc _ _ _))⟩); have p207 : 0 ≤ (x6_1 : Int) := of_decide_eq_true (by first | (with_reducible assumption) | assumption); have q207 : x6_1 < (l0.length : Int) := of_decide_eq_true (by first | (with_reducible assumption) | assumption); obtain ⟨ad207, e207, hx207_0⟩ := Kd.at_int HR0.out x6_1 p207 q207; cases e207; replace p207 := eq_true p207; replace q207 := eq_true q207)))
      go_roundg k1
      case measure => have := HK1.out; omega
      case rel => exact ⟨(Go.bits .xor .u8 t206 (rd l0 x6_1)), (wrap64 (x6_1 - 1)), (by first | rfl | (simp; done) | (simp [*]; done)), (by first | rfl | (simp; done) | (simp [*]; done)), H', ⟨by have := HK1.out; omega⟩, by repeat (first | exact Drawn0.refl _ | apply Drawn0.step)⟩
     ·rw [if_neg c6] at H
      exact absurd H (by simp)
    ·rw [if_neg c5] at H
     exact absurd H (by simp)
   ·rw [if_neg c3] at H
    have c3b0 : decide (0 ≤ x6_1) = false := decide_eq_false c3
    clear c3
    obtain rfl := Option.some.inj H
    go_wp2
    repeat (go_quiet (fail); try go_wp2)
    go_ret
    exact ⟨by first | rfl | (simp; done) | (simp [*]; done), by repeat (first | exact Drawn0.refl _ | apply Drawn0.step)⟩
def welch_values.l0 : Nat → List Int → List Int → List Bool → List Int → Int → Int → Int → Option (List Int × Int)
 | 0, _, _, _, _, _, _, _ => none
 | k + 1, x0, x1, x2, x8, x9, x15, x16 => if x16 < x15 then ((poly_Eval.f k x0 ((x16) % 256)).bind fun t211 => (if 0 ≤ x16 then (if x16 < (x8.length : Int) then ((some (x8.set (x16 : Int).toNat t211 : List Int)).bind fun y212 => (if x16 < (x2.length : Int) then (if rdOf false x2 x16 = true then (if x16 < (x1.length : Int) then (if (rd y212 x16) = (rd x1 x16) then (welch_values.l0 k x0 x1 x2 y212 x9 x15 (wrap64 (x16 + 1))) else (welch_values.l0 k x0 x1 x2 y212 (wrap64 (x9 + 1)) x15 (wrap64 (x16 + 1)))) else (none)) else (welch_values.l0 k x0 x1 x2 y212 x9 x15 (wrap64 (x16 + 1)))) else (none))) else (none)) else (none))) else (some (x8, x9))
def welch_values.f (k : Nat) (l0 : List Int) (l1 : List Int) (l2 : List Bool) : Option (List Int × Int) := if 0 ≤ (l1.length : Int) then (if ((l1.length : Int) : Int).toNat ≤ 281474976710656 then ((some (List.replicate ((l1.length : Int) : Int).toNat 0 : List Int)).bind fun y208 => (welch_values.l0 k l0 l1 l2 y208 0 (y208.length : Int) 0)) else (none)) else (none)
theorem welch_values.mono_l : ∀ k, (∀ y0 y1 y2 y3 y4 y5 y6, LeO (welch_values.l0 k y0 y1 y2 y3 y4 y5 y6) (welch_values.l0 (k + 1) y0 y1 y2 y3 y4 y5 y6))
 | 0 => fun _ _ _ _ _ _ _ r h => by simp [welch_values.l0] at h
 | k + 1 => by
  have ih0 := welch_values.mono_l k
  ·intro y0 y1 y2 y3 y4 y5 y6
   unfold welch_values.l0
   repeat' first
   | (with_reducible exact ih0 _ _ _ _ _ _ _)
   | (with_reducible exact poly_Eval.mono _ _ _)
   | (with_reducible exact LeO.refl _)
   | (with_reducible exact LeO.none _)
   | (with_reducible refine LeO.ite ?_ ?_)
   | (with_reducible refine LeO.bind ?_ (fun _ => ?_))
   | exact ih0 _ _ _ _ _ _ _
   | exact poly_Eval.mono _ _ _
   | exact LeO.none _
   | refine LeO.ite ?_ ?_
   | refine LeO.bind ?_ (fun _ => ?_)
theorem welch_values.mono : ∀ a0 a1 a2 k, LeO (welch_values.f k a0 a1 a2) (welch_values.f (k + 1) a0 a1 a2) := by
 intro a0 a1 a2 k
 have ih0 := welch_values.mono_l k
 unfold welch_values.f
 repeat' first
  | (with_reducible exact ih0 _ _ _ _ _ _ _)
  | (with_reducible exact poly_Eval.mono _ _ _)
  | (with_reducible exact LeO.refl _)
  | (with_reducible exact LeO.none _)
  | (with_reducible refine LeO.ite ?_ ?_)
  | (with_reducible refine LeO.bind ?_ (fun _ => ?_))
  | exact ih0 _ _ _ _ _ _ _
  | exact poly_Eval.mono _ _ _
  | exact LeO.none _
  | refine LeO.ite ?_ ?_
  | refine LeO.bind ?_ (fun _ => ?_)
end Go.Proofs.Ytndljfagojnidaa.P
