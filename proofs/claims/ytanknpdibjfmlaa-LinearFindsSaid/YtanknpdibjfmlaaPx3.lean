/- Functions of the Go program as Lean functions, each with a proof that the Go code answers just so; each theorem states its own conditions. Written by a program. -/
import Derived.Test.YtanknpdibjfmlaaPx0
import Derived.Test.YtanknpdibjfmlaaPx1
import Derived.Test.YtanknpdibjfmlaaPx2
namespace Go.Proofs.Ytanknpdibjfmlaa.P
open Go.RowKit Go.Proofs.YtanknpdibjfmlaaW.PrintWords Go.Proofs.YtanknpdibjfmlaaW.PrintLast Go.Proofs.YtanknpdibjfmlaaW.PrintMore
attribute [local go_sem] max2_int min2_int max_two min_two max_three min_three max_four min_four   -- for this text's walks alone
set_option linter.unusedVariables false
set_option linter.unusedSimpArgs false

def linear_pivot.l0 : Nat → List (List Int) → Int → Int → Int → Int → Option (List (List Int))
  | 0, _, _, _, _, _ => none
  | k + 1, l, a, c, n, i => if i < n then (if 0 ≤ i then (if i < (l.length : Int) then (if 0 ≤ a then (if a < (l.length : Int) then (if i = a then (linear_pivot.l0 k l a c n (wrap64 (i + 1))) else (if 0 ≤ c then (if c < ((rd_L1 l i).length : Int) then ((linear_take.f k (rd_L1 l a) (rd_L1 l i) (rd (rd_L1 l i) c)).bind fun y => linear_pivot.l0 k (l.set i.toNat y) a c n (wrap64 (i + 1))) else none) else none)) else none) else none) else none) else none) else some l
def linear_pivot.sw (l : List (List Int)) (a b : Nat) : List (List Int) := (l.set a (l.getD b [])).set b (l.getD a [])
def linear_pivot.f (k : Nat) (l : List (List Int)) (a c : Int) : Option (List (List Int) × Bool) :=
  if 0 ≤ a then (if a < (l.length : Int) then (if 0 ≤ c then (if (l.all fun x => decide (c < (x.length : Int))) = true then
    (if fidx (fun x => !(rd x c == 0)) (l.drop a.toNat) 0 < 0 then some (l, false) else
      ((gf_Inv.f k (rd (rd_L1 (linear_pivot.sw l a.toNat (a + fidx (fun x => !(rd x c == 0)) (l.drop a.toNat) 0).toNat) a) c)).bind fun v =>
        ((gf_Scale.f k (rd_L1 (linear_pivot.sw l a.toNat (a + fidx (fun x => !(rd x c == 0)) (l.drop a.toNat) 0).toNat) a) v).bind fun s =>
          (linear_pivot.l0 k ((linear_pivot.sw l a.toNat (a + fidx (fun x => !(rd x c == 0)) (l.drop a.toNat) 0).toNat).set a.toNat s) a c (l.length : Int) 0).bind fun l2 => some (l2, true))))
   else none) else none) else none) else none
theorem fidx_lt {α : Type} (p : α → Bool) : ∀ (l : List α) (i : Nat), fidx p l i < (i : Int) + l.length ∧ (fidx p l i < 0 → fidx p l i = -1) ∧ (0 ≤ fidx p l i → (i : Int) ≤ fidx p l i) := by
  intro l
  induction l with
  | nil => intro i; simp [fidx]; omega
  | cons x r ih =>
    intro i
    rw [fidx]
    obtain ⟨h1, h2, h3⟩ := ih (i + 1)
    split
    · simp; omega
    · simp only [List.length_cons]
      refine ⟨by omega, h2, fun h => by have := h3 h; omega⟩
theorem linear_pivot.sw_get (l : List (List Int)) (a : Nat) (b : Int) (ha : a < l.length) (hb : b.toNat < l.length) : rd_L1 (linear_pivot.sw l a b.toNat) (a : Int) = rd_L1 l b := by
  unfold linear_pivot.sw rd_L1
  rw [Int.toNat_natCast]
  simp only [List.getD_eq_getElem?_getD]
  by_cases h : b.toNat = a
  · rw [h, List.getElem?_set_self (by simp; omega)]
    rfl
  · rw [List.getElem?_set_ne h, List.getElem?_set_self (by omega)]
    rfl
/-- The blocks that a matrix may lie in. -/
def MatBlk (w : World) (k : Nat) : Prop := ∃ q, (q = 23 ∨ q = 5) ∧ ∃ cells, w.heap[k]? = some (.cells cells q (0, 0))
set_option maxHeartbeats 8000000 in
set_option maxRecDepth 100000 in
theorem linear_pivot.calls (k : Nat) (v0 : Value) (l : List (List Int)) (a c : Int) (r1 : List (List Int)) (r2 : Bool) (w0 w : World) (hB : Below w0.heap.size w0 w) (ho : Kd.S (Kd.slice 5 (Kd.int .u8)) 23 w w0.heap.size (fun _ => True) v0 l) (h : linear_pivot.f k l a c = some (r1, r2)) :
    Calls Try.prog 26 #[v0, .int .i64 a, .int .i64 c] w fun e w' => e = .returned (.bool r2) ∧ Kd.S (Kd.slice 5 (Kd.int .u8)) 23 w' w0.heap.size (fun _ => True) v0 r1 ∧ Below w0.heap.size w0 w' ∧ Kept w w' (fun k => w0.heap.size ≤ k ∧ MatBlk w k) := by
  have HB := Aside0.mk hB
  clear hB
  unfold linear_pivot.f at h
  by_cases p1 : 0 ≤ a
  · rw [if_pos p1] at h
    by_cases p2 : a < (l.length : Int)
    · rw [if_pos p2] at h
      by_cases p3 : 0 ≤ c
      · rw [if_pos p3] at h
        by_cases p4 : (l.all fun x => decide (c < (x.length : Int))) = true
        · rw [if_pos p4] at h
          obtain ⟨an, rfl⟩ : ∃ n : Nat, a = n := ⟨a.toNat, by omega⟩
          obtain ⟨g, cap, ev, hg0, hg1, hcl⟩ := Kd.S_form ho (by omega)
          subst ev
          obtain ⟨_, hcap, hC⟩ := Kd.S_reads' ho
          have hmax : l.length ≤ 9223372036854775807 := hC.2.1
          have hlt : ∀ x ∈ l, c < (x.length : Int) := fun x hx => by simpa using List.all_eq_true.1 p4 x hx
          have hW : (w.alloc (.cells #[.int .i64 c] 3)).cell? ⟨w.heap.size, 0, none⟩ = some (.int .i64 c) := by
            rw [World.cell?_alloc_at _ _ _ _ rfl]; rfl
          have hD := Kd.C_alloc (Kd.C_drop (c := cap) hC (m := an) (by omega) hcap) (.cells #[.int .i64 c] 3)
          have eA : (Option.map (fun x : Addr => x.add (an * (Kd.slice 5 (Kd.int .u8)).sz)) (some ⟨g, 0, none⟩)) = some ⟨g, an, none⟩ := by
            show some (Addr.add ⟨g, 0, none⟩ (an * 1)) = _
            rw [Nat.mul_one, add_plain]
          rw [if_neg (by omega), eA] at hD
          rw [Int.toNat_natCast] at h
          obtain ⟨z, hz⟩ : ∃ z, fidx (fun x => !(rd x c == 0)) (l.drop an) 0 = z := ⟨_, rfl⟩
          have HC := Aside0.mk (slices_IndexFunc_38.calls w.heap.size (fun x => !(rd x c == 0)) _ (cap - an) (l.drop an) (w.alloc (.cells #[.int .i64 c] 3)) hD (by rw [List.length_drop]; omega)
            (fun m A cx x hx hCx hlx => linear_pivot_1.calls w.heap.size A cx x c _ hW hCx p3 (hlt x (List.mem_of_mem_drop hx))))
          have hzz := fidx_lt (fun x => !(rd x c == 0)) (l.drop an) 0
          rw [hz] at HC h hzz
          rw [List.length_drop] at hzz HC
          have HZ := Aside0.mk hzz
          have HG := Aside0.mk (show MatBlk w g from ⟨23, .inl rfl, hcl⟩)
          have HS := Aside0.mk (Kd.S_mono (Kd.S_alloc (Kd.S_elderB ho w.heap.size (Nat.le_refl _)) (.cells #[.int .i64 c] 3)) (ok' := fun k => k ≠ w.heap.size) (fun k hk => hk.2))
          have H := Aside0.mk h
          have HL := Aside0.mk hlt
          clear hzz h hlt hD hC ho p4 hcl
          have hmf : ∀ (fn : Fn) (first cap : Array Value) (w : World), (Instr.makeFunc fn first cap).run Try.prog w = .ok (.func fn first cap) w := fun _ _ _ _ => rfl
          by_cases hzn : z < 0
          · have b1 : decide (z < 0) = true := decide_eq_true hzn
            have hh := H.out
            rw [if_pos hzn] at hh
            obtain ⟨rfl, rfl⟩ := Prod.mk.inj (Option.some.inj hh)
            go_enter Try.func26, Try.ntmps26
            go_wp2_with (first | (go_at_call 37; (with_reducible refine HC.out.mono ?_); rintro e w' ⟨rfl, ⟨nd, rfl⟩⟩))
            go_ret
            exact ⟨rfl, Kd.S_mono (Kd.S_drewN HS.out _) (fun _ _ => trivial), by repeat (first | (with_reducible first | exact HB.out | apply below_alloc | apply pw_below_drewN | apply below_drew1) | exact HB.out), by repeat (first | exact Kept.refl _ _ | apply Kept.drewN | apply Kept.alloc)⟩
          · have b1 : decide (z < 0) = false := decide_eq_false hzn
            obtain ⟨zn, rfl⟩ : ∃ n : Nat, z = n := ⟨z.toNat, by omega⟩
            have hj : an + zn < l.length := by have := HZ.out; omega
            obtain ⟨A1, c1, A2, c2, hu1, hu2, hf1, hf2⟩ : ∃ A1 c1 A2 c2, (w.alloc (.cells #[.int .i64 c] 3)).cell? ⟨g, an, none⟩ = some (.slice A1 (rd_L1 l an).length c1) ∧ (w.alloc (.cells #[.int .i64 c] 3)).cell? ⟨g, ((an : Int) + (zn : Int)).toNat, none⟩ = some (.slice A2 (rd_L1 l ((an : Int) + (zn : Int))).length c2) ∧ (w.alloc (.cells #[.int .i64 c] 3)).frozen? ⟨g, an, none⟩ = false ∧ (w.alloc (.cells #[.int .i64 c] 3)).frozen? ⟨g, ((an : Int) + (zn : Int)).toNat, none⟩ = false := by
              obtain ⟨inner, hi⟩ := Kd.S_own HS.out
              obtain ⟨u1, _, _, h2⟩ := Mm.own_cell hi an (by omega)
              obtain ⟨u2, _, _, h4⟩ := Mm.own_cell hi ((an : Int) + (zn : Int)).toNat (by omega)
              obtain ⟨ad, A1, c1, e1, h1, _⟩ := at_L1 (Kd.S_reads' HS.out).2.2 (an : Int) (by omega) (by omega)
              cases e1
              obtain ⟨ad, A2, c2, e1, h3, _⟩ := at_L1 (Kd.S_reads' HS.out).2.2 ((an : Int) + (zn : Int)) (by omega) (by omega)
              cases e1
              rw [add_plain] at h1 h3
              exact ⟨A1, c1, A2, c2, h1, h3, h2, h4⟩
            have hx3 : ∀ m, ∃ u3, (((w.alloc (.cells #[.int .i64 c] 3)).drewN m).setCell ⟨g, an, none⟩ (.slice A2 (rd_L1 l ((an : Int) + (zn : Int))).length c2)).cell? ⟨g, ((an : Int) + (zn : Int)).toNat, none⟩ = some u3 ∧ (((w.alloc (.cells #[.int .i64 c] 3)).drewN m).setCell ⟨g, an, none⟩ (.slice A2 (rd_L1 l ((an : Int) + (zn : Int))).length c2)).frozen? ⟨g, ((an : Int) + (zn : Int)).toNat, none⟩ = false := by
              intro m
              obtain ⟨inner, hi⟩ := Kd.S_own (Kd.S_drewN HS.out m)
              obtain ⟨u, _, h1, h2⟩ := Mm.own_cell (Mm.own_set hi an (.slice A2 (rd_L1 l ((an : Int) + (zn : Int))).length c2)).1 ((an : Int) + (zn : Int)).toNat (by omega)
              exact ⟨u, h1, h2⟩
            have q1 : (0 : Int) ≤ (an : Int) + (zn : Int) := by omega
            have q2 : (an : Int) + (zn : Int) < (l.length : Int) := by omega
            have q3 : wrap64 ((an : Int) + (zn : Int)) = (an : Int) + (zn : Int) := by unfold wrap64; omega
            have q4 : IntKind.i64.wrap ((an : Int) + (zn : Int)) = (an : Int) + (zn : Int) := IntWalk.i64_in _ (by omega)
            go_enter Try.func26, Try.ntmps26
            go_wp2_with (first | (go_at_call 37; (with_reducible refine HC.out.mono ?_); rintro e w' ⟨rfl, ⟨nd, rfl⟩⟩))
            refine start_ (n := 20) (S := fun w' => w'.cell? ⟨g, an, none⟩ = some (.slice A1 (rd_L1 l an).length c1) ∧ w'.cell? ⟨g, ((an : Int) + (zn : Int)).toNat, none⟩ = some (.slice A2 (rd_L1 l ((an : Int) + (zn : Int))).length c2)) (ds := [17, 19]) #[false, false, false, false, false, false, false, false, false, false, false, false, false, false, false, false, false, false, false, false] (by kernel_rfl) rfl rfl ⟨hu1, hu2⟩ (fun hHeld => ?_)
            refine pure_ (i := 0) (N := some 17) (v := ?_) (a' := ?_) #[true, false, false, false, false, false, false, false, false, false, false, false, false, false, false, false, false, false, false, false] rfl rfl (by kernel_rfl) (fun _ _ _ h => h) (Or.inl ⟨by rfl, ?_⟩) ?_ ?_
            rotate_left
            · intro w'
              go_simp
              with_reducible rfl
            rotate_left
            · simp only [Act.put, List.setIfInBounds_toArray, List.set_cons_zero, List.set_cons_succ, i64_w, i32_w]
              rfl
            refine pure_ (i := 1) (N := some 18) (v := ?_) (a' := ?_) #[true, true, false, false, false, false, false, false, false, false, false, false, false, false, false, false, false, false, false, false] rfl rfl (by kernel_rfl) (fun _ _ _ h => h) (Or.inl ⟨by rfl, ?_⟩) ?_ ?_
            rotate_left
            · intro w'
              go_simp
              with_reducible rfl
            rotate_left
            · simp only [Act.put, List.setIfInBounds_toArray, List.set_cons_zero, List.set_cons_succ, i64_w, i32_w]
              rfl
            refine pure_ (i := 2) (N := some 19) (v := ?_) (a' := ?_) #[true, true, true, false, false, false, false, false, false, false, false, false, false, false, false, false, false, false, false, false] rfl rfl (by kernel_rfl) (fun _ _ _ h => h) (Or.inl ⟨by rfl, ?_⟩) ?_ ?_
            rotate_left
            · intro w'
              go_simp
              with_reducible rfl
            rotate_left
            · simp only [Act.put, List.setIfInBounds_toArray, List.set_cons_zero, List.set_cons_succ, i64_w, i32_w]
              rfl
            refine pure_ (i := 3) (N := some 20) (v := ?_) (a' := ?_) #[true, true, true, true, false, false, false, false, false, false, false, false, false, false, false, false, false, false, false, false] rfl rfl (by kernel_rfl) (fun _ _ _ h => h) (Or.inl ⟨by rfl, ?_⟩) ?_ ?_
            rotate_left
            · intro w'
              go_simp
              with_reducible rfl
            rotate_left
            · simp only [Act.put, List.setIfInBounds_toArray, List.set_cons_zero, List.set_cons_succ, i64_w, i32_w]
              rfl
            refine pure_ (i := 4) (N := some 21) (v := ?_) (a' := ?_) #[true, true, true, true, true, false, false, false, false, false, false, false, false, false, false, false, false, false, false, false] rfl rfl (by kernel_rfl) (fun _ _ _ h => h) (Or.inl ⟨by rfl, ?_⟩) ?_ ?_
            rotate_left
            · intro w'
              go_simp
              with_reducible rfl
            rotate_left
            · simp only [Act.put, List.setIfInBounds_toArray, List.set_cons_zero, List.set_cons_succ, i64_w, i32_w]
              rfl
            refine pure_ (i := 5) (N := some 22) (v := ?_) (a' := ?_) #[true, true, true, true, true, true, false, false, false, false, false, false, false, false, false, false, false, false, false, false] rfl rfl (by kernel_rfl) (fun _ _ _ h => h) (Or.inl ⟨by rfl, ?_⟩) ?_ ?_
            rotate_left
            · intro w'
              go_simp
              with_reducible rfl
            rotate_left
            · simp only [Act.put, List.setIfInBounds_toArray, List.set_cons_zero, List.set_cons_succ, i64_w, i32_w]
              rfl
            refine pure_ (i := 6) (N := some 23) (v := ?_) (a' := ?_) #[true, true, true, true, true, true, true, false, false, false, false, false, false, false, false, false, false, false, false, false] rfl rfl (by kernel_rfl) (fun _ _ _ h => h) (Or.inl ⟨by rfl, ?_⟩) ?_ ?_
            rotate_left
            · intro w'
              go_simp
              with_reducible rfl
            rotate_left
            · simp only [Act.put, List.setIfInBounds_toArray, List.set_cons_zero, List.set_cons_succ, i64_w, i32_w]
              rfl
            refine pure_ (i := 7) (N := some 24) (v := ?_) (a' := ?_) #[true, true, true, true, true, true, true, true, false, false, false, false, false, false, false, false, false, false, false, false] rfl rfl (by kernel_rfl) (fun _ _ _ h => h) (Or.inl ⟨by rfl, ?_⟩) ?_ ?_
            rotate_left
            · intro w'
              go_simp
              with_reducible rfl
            rotate_left
            · simp only [Act.put, List.setIfInBounds_toArray, List.set_cons_zero, List.set_cons_succ, i64_w, i32_w]
              rfl
            refine pure_ (i := 8) (N := some 25) (v := ?_) (a' := ?_) #[true, true, true, true, true, true, true, true, true, false, false, false, false, false, false, false, false, false, false, false] rfl rfl (by kernel_rfl) (fun _ _ _ h => h) (Or.inl ⟨by rfl, ?_⟩) ?_ ?_
            rotate_left
            · intro w'
              go_simp
              with_reducible rfl
            rotate_left
            · simp only [Act.put, List.setIfInBounds_toArray, List.set_cons_zero, List.set_cons_succ, i64_w, i32_w]
              rfl
            refine pure_ (i := 9) (N := some 26) (v := ?_) (a' := ?_) #[true, true, true, true, true, true, true, true, true, true, false, false, false, false, false, false, false, false, false, false] rfl rfl (by kernel_rfl) (fun _ _ _ h => h) (Or.inl ⟨by rfl, ?_⟩) ?_ ?_
            rotate_left
            · intro w'
              go_simp
              with_reducible rfl
            rotate_left
            · simp only [Act.put, List.setIfInBounds_toArray, List.set_cons_zero, List.set_cons_succ, i64_w, i32_w]
              rfl
            refine pure_ (i := 10) (N := some 27) (v := ?_) (a' := ?_) #[true, true, true, true, true, true, true, true, true, true, true, false, false, false, false, false, false, false, false, false] rfl rfl (by kernel_rfl) (fun _ _ _ h => h) (Or.inl ⟨by rfl, ?_⟩) ?_ ?_
            rotate_left
            · intro w'
              go_simp
              with_reducible rfl
            rotate_left
            · simp only [Act.put, List.setIfInBounds_toArray, List.set_cons_zero, List.set_cons_succ, i64_w, i32_w]
              rfl
            refine pure_ (i := 12) (N := some 29) (v := ?_) (a' := ?_) #[true, true, true, true, true, true, true, true, true, true, true, false, true, false, false, false, false, false, false, false] rfl rfl (by kernel_rfl) (fun _ _ _ h => h) (Or.inl ⟨by rfl, ?_⟩) ?_ ?_
            rotate_left
            · intro w'
              go_simp
              with_reducible rfl
            rotate_left
            · simp only [Act.put, List.setIfInBounds_toArray, List.set_cons_zero, List.set_cons_succ, i64_w, i32_w]
              rfl
            refine pure_ (i := 13) (N := some 30) (v := ?_) (a' := ?_) #[true, true, true, true, true, true, true, true, true, true, true, false, true, true, false, false, false, false, false, false] rfl rfl (by kernel_rfl) (fun _ _ _ h => h) (Or.inl ⟨by rfl, ?_⟩) ?_ ?_
            rotate_left
            · intro w'
              go_simp
              with_reducible rfl
            rotate_left
            · simp only [Act.put, List.setIfInBounds_toArray, List.set_cons_zero, List.set_cons_succ, i64_w, i32_w]
              rfl
            refine pure_ (i := 14) (N := some 31) (v := ?_) (a' := ?_) #[true, true, true, true, true, true, true, true, true, true, true, false, true, true, true, false, false, false, false, false] rfl rfl (by kernel_rfl) (fun _ _ _ h => h) (Or.inl ⟨by rfl, ?_⟩) ?_ ?_
            rotate_left
            · intro w'
              go_simp
              with_reducible rfl
            rotate_left
            · simp only [Act.put, List.setIfInBounds_toArray, List.set_cons_zero, List.set_cons_succ, i64_w, i32_w]
              rfl
            refine take_ (i := 11) (N := some 28) (v := ?_) (a' := ?_) #[true, true, true, true, true, true, true, true, true, true, true, true, true, true, true, false, false, false, false, false] rfl rfl (by kernel_rfl) (fun _ _ _ h => h) (Or.inl ⟨by rfl, ?_⟩) hHeld ?_ ?_
            rotate_left
            · rintro w' ⟨s0, s1⟩
              go_simp
              with_reducible rfl
            rotate_left
            · simp only [Act.put, List.setIfInBounds_toArray, List.set_cons_zero, List.set_cons_succ, i64_w, i32_w]
              rfl
            refine take_ (i := 15) (N := some 32) (v := ?_) (a' := ?_) #[true, true, true, true, true, true, true, true, true, true, true, true, true, true, true, true, false, false, false, false] rfl rfl (by kernel_rfl) (fun _ _ _ h => h) (Or.inl ⟨by rfl, ?_⟩) hHeld ?_ ?_
            rotate_left
            · rintro w' ⟨s0, s1⟩
              go_simp
              with_reducible rfl
            rotate_left
            · simp only [Act.put, List.setIfInBounds_toArray, List.set_cons_zero, List.set_cons_succ, i64_w, i32_w]
              rfl
            refine pure_ (i := 16) (N := some 33) (v := ?_) (a' := ?_) #[true, true, true, true, true, true, true, true, true, true, true, true, true, true, true, true, true, false, false, false] rfl rfl (by kernel_rfl) (fun _ _ _ h => h) (Or.inl ⟨by rfl, ?_⟩) ?_ ?_
            rotate_left
            · intro w'
              go_simp
              with_reducible rfl
            rotate_left
            · simp only [Act.put, List.setIfInBounds_toArray, List.set_cons_zero, List.set_cons_succ, i64_w, i32_w]
              rfl
            refine last_ (i := 17) (N := none) #[true, true, true, true, true, true, true, true, true, true, true, true, true, true, true, true, true, true, false, false] rfl rfl (by kernel_rfl) (by decide) (fun K hK => ?_)
            refine skip_ (w1 := ?_) (by rfl) rfl ?_ ?_
            rotate_left
            · go_simp
              rfl
            obtain ⟨u3, hu3, hf3⟩ := hx3 (nd + 1)
            refine hK.out _ _ ?_
            clear hK K
            refine pure_ (i := 18) (N := some 34) (v := ?_) (a' := ?_) #[true, true, true, true, true, true, true, true, true, true, true, true, true, true, true, true, true, true, true, false] rfl rfl (by kernel_rfl) (fun _ _ _ h => h) (Or.inl ⟨by rfl, ?_⟩) ?_ ?_
            rotate_left
            · intro w'
              go_simp
              with_reducible rfl
            rotate_left
            · simp only [Act.put, List.setIfInBounds_toArray, List.set_cons_zero, List.set_cons_succ, i64_w, i32_w]
              rfl
            refine last_ (i := 19) (N := none) #[true, true, true, true, true, true, true, true, true, true, true, true, true, true, true, true, true, true, true, true] rfl rfl (by kernel_rfl) (by decide) (fun K hK => ?_)
            refine skip_ (w1 := ?_) (by rfl) rfl ?_ ?_
            rotate_left
            · go_simp
              rfl
            refine hK.out _ _ ?_
            clear hK K
            refine done_ (by kernel_rfl) ?_

            have hw5 := Mm.S_swap (Kd.S_drewN HS.out (nd + 1)) an ((an : Int) + (zn : Int)).toNat (by omega) (by omega) hu1 hu2
            have hb5 : Below w0.heap.size w0 ((((w.alloc (.cells #[.int .i64 c] 3)).drewN (nd + 1)).setCell ⟨g, an, none⟩ (.slice A2 (rd_L1 l ((an : Int) + (zn : Int))).length c2)).setCell ⟨g, ((an : Int) + (zn : Int)).toNat, none⟩ (.slice A1 (rd_L1 l an).length c1)) := below_set (below_set (pw_below_drewN (below_alloc HB.out _) _) hg0) hg0
            have hk5 : Kept w ((((w.alloc (.cells #[.int .i64 c] 3)).drewN (nd + 1)).setCell ⟨g, an, none⟩ (.slice A2 (rd_L1 l ((an : Int) + (zn : Int))).length c2)).setCell ⟨g, ((an : Int) + (zn : Int)).toNat, none⟩ (.slice A1 (rd_L1 l an).length c1)) (fun k => w0.heap.size ≤ k ∧ MatBlk w k) := Kept.setCell (Kept.setCell (Kept.drewN (Kept.alloc (Kept.refl _ _) _) _) (.inl ⟨hg0, HG.out⟩) _) (.inl ⟨hg0, HG.out⟩) _
            have hc5 : ((((w.alloc (.cells #[.int .i64 c] 3)).drewN (nd + 1)).setCell ⟨g, an, none⟩ (.slice A2 (rd_L1 l ((an : Int) + (zn : Int))).length c2)).setCell ⟨g, ((an : Int) + (zn : Int)).toNat, none⟩ (.slice A1 (rd_L1 l an).length c1)).cell? ⟨w.heap.size, 0, none⟩ = some (.int .i64 c) := by
              rw [World.cell?_setCell_far _ ⟨g, _, none⟩ ⟨w.heap.size, 0, none⟩ _ (by show g ≠ w.heap.size; omega), World.cell?_setCell_far _ ⟨g, _, none⟩ ⟨w.heap.size, 0, none⟩ _ (by show g ≠ w.heap.size; omega)]
              exact hW
            clear hu1 hu2 hf1 hf2 hx3 hu3 hf3
            generalize ((((w.alloc (.cells #[.int .i64 c] 3)).drewN (nd + 1)).setCell ⟨g, an, none⟩ (.slice A2 (rd_L1 l ((an : Int) + (zn : Int))).length c2)).setCell ⟨g, ((an : Int) + (zn : Int)).toNat, none⟩ (.slice A1 (rd_L1 l an).length c1)) = w5 at hw5 hb5 hk5 hc5 ⊢
            obtain ⟨l1, hl1⟩ : ∃ x, linear_pivot.sw l an ((an : Int) + (zn : Int)).toNat = x := ⟨_, rfl⟩
            have hln : l1.length = l.length := by rw [← hl1]; simp [linear_pivot.sw]
            have hget : rd_L1 l1 (an : Int) = rd_L1 l ((an : Int) + (zn : Int)) := by
              rw [← hl1]
              exact linear_pivot.sw_get l an _ (by omega) (by omega)
            have hcl1 : c < ((rd_L1 l1 (an : Int)).length : Int) := by
              rw [hget]
              refine HL.out _ ?_
              rw [rd_L1, List.getD_eq_getElem?_getD, List.getElem?_eq_getElem (by omega)]
              exact List.getElem_mem _
            have hh := H.out
            rw [hl1, if_neg (show ¬ (zn : Int) < 0 by omega)] at hh
            replace hh := Option.bind_eq_some_iff.mp hh
            obtain ⟨v, hv, hh⟩ := hh
            replace hh := Option.bind_eq_some_iff.mp hh
            obtain ⟨s, hs, hh⟩ := hh
            replace hh := Option.bind_eq_some_iff.mp hh
            obtain ⟨l2, hl2, hh⟩ := hh
            obtain ⟨rfl, rfl⟩ := Prod.mk.inj (Option.some.inj hh)
            have hw5' : Kd.S (Kd.slice 5 (Kd.int .u8)) 23 w5 w0.heap.size (fun k => k ≠ w.heap.size) (.slice (some ⟨g, 0, none⟩) l.length cap) l1 := by rw [← hl1]; exact hw5
            have HS5 := Aside0.mk hw5'
            have HV := Aside0.mk hv
            have HSC := Aside0.mk hs
            have HL2 := Aside0.mk hl2
            have HB5 := Aside0.mk hb5
            have HK5 := Aside0.mk hk5
            obtain ⟨ad, A3, c3, e1, hy1, hl3, hC3⟩ := at_L1 (Kd.S_reads' HS5.out).2.2 (an : Int) (by omega) (by omega)
            cases e1
            rw [add_plain, Int.toNat_natCast] at hy1
            obtain ⟨ad3, e1, hy2⟩ := Kd.at_int hC3 c p3 hcl1
            cases e1
            have hy3 := hc5
            have HC3 := Aside0.mk hC3
            have HL3 := Aside0.mk hl3
            have HLN := Aside0.mk hln
            have HAN := Aside0.mk (show an < l.length by omega)
            have r1 : (0 : Int) ≤ (an : Int) := p1
            have r2 : (an : Int) < (l.length : Int) := p2
            clear q3 q4 hget hC3 hl3 hw5 hw5' hv hs hl2 hb5 hk5 hc5 hh H HC HS hW
            go_wp2
            refine start_ (n := 17) (S := fun w' => w'.cell? ⟨g, an, none⟩ = some (.slice (some ad3) (rd_L1 l1 (an : Int)).length c3) ∧ w'.cell? (ad3.add c.toNat) = some (.int .u8 (rd (rd_L1 l1 (an : Int)) c)) ∧ w'.cell? ⟨w.heap.size, 0, none⟩ = some (.int .i64 c)) (ds := [16]) #[false, false, false, false, false, false, false, false, false, false, false, false, false, false, false, false, false] (by kernel_rfl) rfl rfl ⟨hy1, hy2, hy3⟩ (fun hHeld => ?_)
            refine pure_ (i := 0) (N := some 35) (v := ?_) (a' := ?_) #[true, false, false, false, false, false, false, false, false, false, false, false, false, false, false, false, false] rfl rfl (by kernel_rfl) (fun _ _ _ h => h) (Or.inl ⟨by rfl, ?_⟩) ?_ ?_
            rotate_left
            · intro w'
              go_simp
              with_reducible rfl
            rotate_left
            · simp only [Act.put, List.setIfInBounds_toArray, List.set_cons_zero, List.set_cons_succ, i64_w, i32_w]
              rfl
            refine pure_ (i := 1) (N := some 36) (v := ?_) (a' := ?_) #[true, true, false, false, false, false, false, false, false, false, false, false, false, false, false, false, false] rfl rfl (by kernel_rfl) (fun _ _ _ h => h) (Or.inl ⟨by rfl, ?_⟩) ?_ ?_
            rotate_left
            · intro w'
              go_simp
              with_reducible rfl
            rotate_left
            · simp only [Act.put, List.setIfInBounds_toArray, List.set_cons_zero, List.set_cons_succ, i64_w, i32_w]
              rfl
            refine pure_ (i := 2) (N := some 37) (v := ?_) (a' := ?_) #[true, true, true, false, false, false, false, false, false, false, false, false, false, false, false, false, false] rfl rfl (by kernel_rfl) (fun _ _ _ h => h) (Or.inl ⟨by rfl, ?_⟩) ?_ ?_
            rotate_left
            · intro w'
              go_simp
              with_reducible rfl
            rotate_left
            · simp only [Act.put, List.setIfInBounds_toArray, List.set_cons_zero, List.set_cons_succ, i64_w, i32_w]
              rfl
            refine pure_ (i := 3) (N := some 38) (v := ?_) (a' := ?_) #[true, true, true, true, false, false, false, false, false, false, false, false, false, false, false, false, false] rfl rfl (by kernel_rfl) (fun _ _ _ h => h) (Or.inl ⟨by rfl, ?_⟩) ?_ ?_
            rotate_left
            · intro w'
              go_simp
              with_reducible rfl
            rotate_left
            · simp only [Act.put, List.setIfInBounds_toArray, List.set_cons_zero, List.set_cons_succ, i64_w, i32_w]
              rfl
            refine pure_ (i := 4) (N := some 39) (v := ?_) (a' := ?_) #[true, true, true, true, true, false, false, false, false, false, false, false, false, false, false, false, false] rfl rfl (by kernel_rfl) (fun _ _ _ h => h) (Or.inl ⟨by rfl, ?_⟩) ?_ ?_
            rotate_left
            · intro w'
              go_simp
              with_reducible rfl
            rotate_left
            · simp only [Act.put, List.setIfInBounds_toArray, List.set_cons_zero, List.set_cons_succ, i64_w, i32_w]
              rfl
            refine pure_ (i := 6) (N := some 41) (v := ?_) (a' := ?_) #[true, true, true, true, true, false, true, false, false, false, false, false, false, false, false, false, false] rfl rfl (by kernel_rfl) (fun _ _ _ h => h) (Or.inl ⟨by rfl, ?_⟩) ?_ ?_
            rotate_left
            · intro w'
              go_simp
              with_reducible rfl
            rotate_left
            · simp only [Act.put, List.setIfInBounds_toArray, List.set_cons_zero, List.set_cons_succ, i64_w, i32_w]
              rfl
            refine pure_ (i := 7) (N := some 42) (v := ?_) (a' := ?_) #[true, true, true, true, true, false, true, true, false, false, false, false, false, false, false, false, false] rfl rfl (by kernel_rfl) (fun _ _ _ h => h) (Or.inl ⟨by rfl, ?_⟩) ?_ ?_
            rotate_left
            · intro w'
              go_simp
              with_reducible rfl
            rotate_left
            · simp only [Act.put, List.setIfInBounds_toArray, List.set_cons_zero, List.set_cons_succ, i64_w, i32_w]
              rfl
            refine pure_ (i := 8) (N := some 43) (v := ?_) (a' := ?_) #[true, true, true, true, true, false, true, true, true, false, false, false, false, false, false, false, false] rfl rfl (by kernel_rfl) (fun _ _ _ h => h) (Or.inl ⟨by rfl, ?_⟩) ?_ ?_
            rotate_left
            · intro w'
              go_simp
              with_reducible rfl
            rotate_left
            · simp only [Act.put, List.setIfInBounds_toArray, List.set_cons_zero, List.set_cons_succ, i64_w, i32_w]
              rfl
            refine take_ (i := 5) (N := some 40) (v := ?_) (a' := ?_) #[true, true, true, true, true, true, true, true, true, false, false, false, false, false, false, false, false] rfl rfl (by kernel_rfl) (fun _ _ _ h => h) (Or.inl ⟨by rfl, ?_⟩) hHeld ?_ ?_
            rotate_left
            · rintro w' ⟨s0, s1, s2⟩
              go_simp
              with_reducible rfl
            rotate_left
            · simp only [Act.put, List.setIfInBounds_toArray, List.set_cons_zero, List.set_cons_succ, i64_w, i32_w]
              rfl
            refine take_ (i := 9) (N := some 44) (v := ?_) (a' := ?_) #[true, true, true, true, true, true, true, true, true, true, false, false, false, false, false, false, false] rfl rfl (by kernel_rfl) (fun _ _ _ h => h) (Or.inl ⟨by rfl, ?_⟩) hHeld ?_ ?_
            rotate_left
            · rintro w' ⟨s0, s1, s2⟩
              go_simp
              with_reducible rfl
            rotate_left
            · simp only [Act.put, List.setIfInBounds_toArray, List.set_cons_zero, List.set_cons_succ, i64_w, i32_w]
              rfl
            refine take_ (i := 10) (N := some 45) (v := ?_) (a' := ?_) #[true, true, true, true, true, true, true, true, true, true, true, false, false, false, false, false, false] rfl rfl (by kernel_rfl) (fun _ _ _ h => h) (Or.inl ⟨by rfl, ?_⟩) hHeld ?_ ?_
            rotate_left
            · rintro w' ⟨s0, s1, s2⟩
              go_simp
              with_reducible rfl
            rotate_left
            · simp only [Act.put, List.setIfInBounds_toArray, List.set_cons_zero, List.set_cons_succ, i64_w, i32_w]
              rfl
            refine pure_ (i := 11) (N := some 46) (v := ?_) (a' := ?_) #[true, true, true, true, true, true, true, true, true, true, true, true, false, false, false, false, false] rfl rfl (by kernel_rfl) (fun _ _ _ h => h) (Or.inl ⟨by rfl, ?_⟩) ?_ ?_
            rotate_left
            · intro w'
              go_simp
              with_reducible rfl
            rotate_left
            · simp only [Act.put, List.setIfInBounds_toArray, List.set_cons_zero, List.set_cons_succ, i64_w, i32_w]
              rfl
            refine take_ (i := 12) (N := some 47) (v := ?_) (a' := ?_) #[true, true, true, true, true, true, true, true, true, true, true, true, true, false, false, false, false] rfl rfl (by kernel_rfl) (fun _ _ _ h => h) (Or.inl ⟨by rfl, ?_⟩) hHeld ?_ ?_
            rotate_left
            · rintro w' ⟨s0, s1, s2⟩
              go_simp
              with_reducible rfl
            rotate_left
            · simp only [Act.put, List.setIfInBounds_toArray, List.set_cons_zero, List.set_cons_succ, i64_w, i32_w]
              rfl
            refine one_ (i := 13) (N := some 48) #[true, true, true, true, true, true, true, true, true, true, true, true, true, true, false, false, false] rfl rfl (by kernel_rfl) (by decide) (fun K hK => ?_)
            refine goes_ Try.func40 (by kernel_rfl) rfl #[.int .u8 (rd (rd_L1 l1 (an : Int)) c)] (by rfl) rfl rfl (by simp only [List.map_toArray, List.map_cons, List.map_nil]; rfl) ?_
            with_reducible refine (gf_Inv.calls k _ v _ HV.out).mono ?_
            rintro e w7 ⟨rfl, ⟨n7, rfl⟩⟩
            refine ⟨_, rfl, ?_⟩
            refine hK.out _ _ ⟨hHeld.1, hHeld.2.1, hHeld.2.2⟩ (fun hHeld => ?_)
            clear hK K
            refine norm_ (a' := ?_) ?_ ?_
            rotate_left
            · show Act.put _ (some 48) _ = _
              simp only [Act.put, List.setIfInBounds_toArray, List.set_cons_zero, List.set_cons_succ, i64_w, i32_w]
              rfl
            refine one_ (i := 14) (N := some 49) #[true, true, true, true, true, true, true, true, true, true, true, true, true, true, true, false, false] rfl rfl (by kernel_rfl) (by decide) (fun K hK => ?_)
            refine goes_ Try.func39 (by kernel_rfl) rfl #[.slice (some ad3) (rd_L1 l1 (an : Int)).length c3, .int .u8 v] (by rfl) rfl rfl (by simp only [List.map_toArray, List.map_cons, List.map_nil]; rfl) ?_
            with_reducible refine (gf_Scale.calls k _ _ _ _ s _ (Kd.C_drewN (Kd.C_drew HC3.out) n7) HL3.out HSC.out).mono ?_
            rintro e w8 ⟨v3, rfl, ho3, hb3⟩
            refine ⟨_, rfl, ?_⟩
            obtain ⟨A4, c4, e4⟩ := Kd.R_slice ho3
            subst e4
            have HO3 := Aside0.mk ho3
            have HB3 := Aside0.mk hb3
            obtain ⟨hx4, hf4⟩ : (∃ u, w8.cell? ⟨g, an, none⟩ = some u) ∧ w8.frozen? ⟨g, an, none⟩ = false := by
                obtain ⟨inner, hi⟩ := Kd.S_own (Kd.S_below (Kd.S_drewN (Kd.S_drew HS5.out) n7) hb3)
                rw [HLN.out] at hi
                obtain ⟨u, _, h1, h2⟩ := Mm.own_cell hi an HAN.out
                exact ⟨⟨u, h1⟩, h2⟩
            obtain ⟨u4, hu4⟩ := hx4
            clear ho3
            refine hK.out _ _ ⟨(hb3.cell (World.block_lt_of_cell? _ _ hHeld.1)).trans hHeld.1, (hb3.cell (World.block_lt_of_cell? _ _ hHeld.2.1)).trans hHeld.2.1, (hb3.cell (World.block_lt_of_cell? _ _ hHeld.2.2)).trans hHeld.2.2⟩ (fun hHeld => ?_)
            clear hK K
            refine norm_ (a' := ?_) ?_ ?_
            rotate_left
            · show Act.put _ (some 49) _ = _
              simp only [Act.put, List.setIfInBounds_toArray, List.set_cons_zero, List.set_cons_succ, i64_w, i32_w]
              rfl
            refine pure_ (i := 15) (N := some 50) (v := ?_) (a' := ?_) #[true, true, true, true, true, true, true, true, true, true, true, true, true, true, true, true, false] rfl rfl (by kernel_rfl) (fun _ _ _ h => h) (Or.inl ⟨by rfl, ?_⟩) ?_ ?_
            rotate_left
            · intro w'
              go_simp
              with_reducible rfl
            rotate_left
            · simp only [Act.put, List.setIfInBounds_toArray, List.set_cons_zero, List.set_cons_succ, i64_w, i32_w]
              rfl
            refine last_ (i := 16) (N := none) #[true, true, true, true, true, true, true, true, true, true, true, true, true, true, true, true, true] rfl rfl (by kernel_rfl) (by decide) (fun K hK => ?_)
            refine skip_ (w1 := ?_) (by rfl) rfl ?_ ?_
            rotate_left
            · go_simp
              rfl
            refine hK.out _ _ ?_
            clear hK K
            refine done_ (by kernel_rfl) ?_

            have hw6 := Mm.S_replace (Kd.S_drewN (Kd.S_drew HS5.out) n7) an HAN.out HB3.out (by exact HB5.out.size) (fun k hk => by have := World.block_lt_of_cell? _ _ hy3; have hk' : w5.heap.size ≤ k := hk; have h2 : w.heap.size < w5.heap.size := this; omega) HO3.out
            have HS6 := Aside0.mk hw6.1
            have HB6 := Aside0.mk (below_set (j := an) (v := .slice A4 s.length c4) (below_step (pw_below_drewN (below_drew1 HB5.out) n7) HB3.out) hg0)
            have HK6 := Aside0.mk (Kept.setCell (p := ⟨g, an, none⟩) (Kept.below (Kept.drewN (Kept.drew HK5.out) n7) HB3.out) (.inl ⟨hg0, HG.out⟩) (.slice A4 s.length c4))
            have hc6 : (w8.setCell ⟨g, an, none⟩ (.slice A4 s.length c4)).cell? ⟨w.heap.size, 0, none⟩ = some (.int .i64 c) := by
              rw [World.cell?_setCell_far _ ⟨g, _, none⟩ ⟨w.heap.size, 0, none⟩ _ (by show g ≠ w.heap.size; omega)]
              exact (hb3.cell (World.block_lt_of_cell? _ _ hy3)).trans hy3
            have HX6 := Aside0.mk hc6
            clear hw6 hb3 HO3 HB3 hu4 hf4 hy1 hy2 hy3 HS5 HB5 HK5 HC3 HL3 hc6 hHeld
            generalize w8.setCell ⟨g, an, none⟩ (.slice A4 s.length c4) = wA at HS6 HB6 HK6 HX6 ⊢
            go_wp2
            go_loopg [53] k (fun kq v53 w' => ∃ (x : List (List Int)) (i : Int), v53 = .int .i64 i ∧ Aside0 (linear_pivot.l0 kq x an c (l.length : Int) i = some l2) ∧ Aside0 (kq ≤ k) ∧ Aside0 (Kd.S (Kd.slice 5 (Kd.int .u8)) 23 w' w0.heap.size (fun k => k ≠ w.heap.size) (.slice (some ⟨g, 0, none⟩) l.length cap) x) ∧ Aside0 (Below w0.heap.size w0 w') ∧ Aside0 (Kept w w' (fun k => w0.heap.size ≤ k ∧ MatBlk w k)) ∧ Aside0 (w'.cell? ⟨w.heap.size, 0, none⟩ = some (.int .i64 c)))
            case atStart => exact ⟨_, 0, rfl, HL2, ⟨Nat.le_refl _⟩, HS6, HB6, HK6, HX6⟩
            case round =>
              clear HL2 HS6 HB6 HK6 HX6
              obtain ⟨x, i, rfl, HA, HK1, HS, HB, HK, HX⟩ := hrel
              cases gk with
              | zero => exact absurd HA.out (by simp [linear_pivot.l0])
              | succ k1 =>
                have H := HA.out
                clear HA
                simp only [linear_pivot.l0] at H
                have hxl := (Kd.S_reads' HS.out).1
                by_cases t1 : i < (l.length : Int)
                · rw [if_pos t1] at H
                  by_cases t2 : 0 ≤ i
                  · rw [if_pos t2] at H
                    by_cases t3 : i < (x.length : Int)
                    · rw [if_pos t3] at H
                      by_cases t4 : (an : Int) < (x.length : Int)
                      · rw [if_pos r1, if_pos t4] at H
                        have t1b : decide (i < (l.length : Int)) = true := decide_eq_true t1
                        obtain ⟨ad, A6, c6, e1, hx6, hl6, hC6⟩ := at_L1 (Kd.S_reads' HS.out).2.2 i t2 t3
                        cases e1
                        rw [add_plain] at hx6
                        by_cases t5 : i = (an : Int)
                        · rw [if_pos t5] at H
                          have t5b : (i == (an : Int)) = true := by simpa using t5
                          have H' := Aside0.mk H
                          clear H hl6 hC6 t5
                          clear hxl
                          replace t2 := eq_true t2
                          replace t1 := eq_true t1
                          go_wp2
                          go_roundg k1
                          case measure => have := HK1.out; omega
                          case rel => exact ⟨x, _, (by first | rfl | (simp; done) | (simp [*]; done)), H', ⟨by have := HK1.out; omega⟩, HS, HB, HK, HX⟩
                        · rw [if_neg t5] at H
                          by_cases t6 : 0 ≤ c
                          · rw [if_pos t6] at H
                            by_cases t7 : c < ((rd_L1 x i).length : Int)
                            · rw [if_pos t7] at H
                              replace H := Option.bind_eq_some_iff.mp H
                              obtain ⟨y, ht, H⟩ := H
                              have HT := Aside0.mk ht
                              have H' := Aside0.mk H
                              have t5b : (i == (an : Int)) = false := by simpa using t5
                              obtain ⟨ad6, e1, hz2⟩ := Kd.at_int hC6 c p3 t7
                              cases e1
                              obtain ⟨ad, A5, c5, e1, hz1, hl5, _⟩ := at_L1 (Kd.S_reads' HS.out).2.2 (an : Int) r1 t4
                              cases e1
                              rw [add_plain, Int.toNat_natCast] at hz1
                              have hz3 := HX.out
                              obtain ⟨oki, hoki, hR6, hoth, hback⟩ := Mm.S_turn HS.out i.toNat (by omega) (fun k hk => by have := World.block_lt_of_cell? _ _ hz3; have h2 : w.heap.size < wr.heap.size := this; omega) hx6
                              obtain ⟨A5', c5', e5, hl5', hC5⟩ := hoth an _ (by omega) (by omega) hz1
                              injection e5 with e5a e5b e5c
                              subst e5a; subst e5c
                              have HR6 := Aside0.mk (show Kd.R (Kd.int .u8) 5 wr w0.heap.size oki (.slice (some ad6) (rd_L1 x i).length c6) (rd_L1 x i) from hR6)
                              have HC5 := Aside0.mk (show ∀ W1, Kept wr W1 oki → Kd.C (Kd.int .u8) W1 A5 (rd_L1 x (an : Int)).length (rd_L1 x (an : Int)) from hC5)
                              have HL5 := Aside0.mk hl5
                              have HBK := Aside0.mk hback
                              have HOK := Aside0.mk hoki
                              have HXL := Aside0.mk hxl
                              clear t5 hxl ht H hl6 hC6 hR6 hoth hback hC5 hl5 hl5' hoki e5b
                              replace t2 := eq_true t2
                              replace t1 := eq_true t1
                              go_wp2
                              refine start_ (n := 10) (S := fun w' => w'.cell? ⟨g, an, none⟩ = some (.slice A5 (rd_L1 x (an : Int)).length c5) ∧ w'.cell? (ad6.add c.toNat) = some (.int .u8 (rd (rd_L1 x i) c)) ∧ w'.cell? ⟨w.heap.size, 0, none⟩ = some (.int .i64 c)) (ds := [9]) #[false, false, false, false, false, false, false, false, false, false] (by kernel_rfl) rfl rfl ⟨hz1, hz2, hz3⟩ (fun hHeld => ?_)
                              refine pure_ (i := 0) (N := some 61) (v := ?_) (a' := ?_) #[true, false, false, false, false, false, false, false, false, false] rfl rfl (by kernel_rfl) (fun _ _ _ h => h) (Or.inl ⟨by rfl, ?_⟩) ?_ ?_
                              rotate_left
                              · intro w'
                                go_simp
                                with_reducible rfl
                              rotate_left
                              · simp only [Act.put, List.setIfInBounds_toArray, List.set_cons_zero, List.set_cons_succ, i64_w, i32_w]
                                rfl
                              refine pure_ (i := 1) (N := some 62) (v := ?_) (a' := ?_) #[true, true, false, false, false, false, false, false, false, false] rfl rfl (by kernel_rfl) (fun _ _ _ h => h) (Or.inl ⟨by rfl, ?_⟩) ?_ ?_
                              rotate_left
                              · intro w'
                                go_simp
                                with_reducible rfl
                              rotate_left
                              · simp only [Act.put, List.setIfInBounds_toArray, List.set_cons_zero, List.set_cons_succ, i64_w, i32_w]
                                rfl
                              refine pure_ (i := 2) (N := some 63) (v := ?_) (a' := ?_) #[true, true, true, false, false, false, false, false, false, false] rfl rfl (by kernel_rfl) (fun _ _ _ h => h) (Or.inl ⟨by rfl, ?_⟩) ?_ ?_
                              rotate_left
                              · intro w'
                                go_simp
                                with_reducible rfl
                              rotate_left
                              · simp only [Act.put, List.setIfInBounds_toArray, List.set_cons_zero, List.set_cons_succ, i64_w, i32_w]
                                rfl
                              refine pure_ (i := 4) (N := some 65) (v := ?_) (a' := ?_) #[true, true, true, false, true, false, false, false, false, false] rfl rfl (by kernel_rfl) (fun _ _ _ h => h) (Or.inl ⟨by rfl, ?_⟩) ?_ ?_
                              rotate_left
                              · intro w'
                                go_simp
                                with_reducible rfl
                              rotate_left
                              · simp only [Act.put, List.setIfInBounds_toArray, List.set_cons_zero, List.set_cons_succ, i64_w, i32_w]
                                rfl
                              refine pure_ (i := 5) (N := some 66) (v := ?_) (a' := ?_) #[true, true, true, false, true, true, false, false, false, false] rfl rfl (by kernel_rfl) (fun _ _ _ h => h) (Or.inl ⟨by rfl, ?_⟩) ?_ ?_
                              rotate_left
                              · intro w'
                                go_simp
                                with_reducible rfl
                              rotate_left
                              · simp only [Act.put, List.setIfInBounds_toArray, List.set_cons_zero, List.set_cons_succ, i64_w, i32_w]
                                rfl
                              refine take_ (i := 3) (N := some 64) (v := ?_) (a' := ?_) #[true, true, true, true, true, true, false, false, false, false] rfl rfl (by kernel_rfl) (fun _ _ _ h => h) (Or.inl ⟨by rfl, ?_⟩) hHeld ?_ ?_
                              rotate_left
                              · rintro w' ⟨s0, s1, s2⟩
                                go_simp
                                with_reducible rfl
                              rotate_left
                              · simp only [Act.put, List.setIfInBounds_toArray, List.set_cons_zero, List.set_cons_succ, i64_w, i32_w]
                                rfl
                              refine take_ (i := 6) (N := some 67) (v := ?_) (a' := ?_) #[true, true, true, true, true, true, true, false, false, false] rfl rfl (by kernel_rfl) (fun _ _ _ h => h) (Or.inl ⟨by rfl, ?_⟩) hHeld ?_ ?_
                              rotate_left
                              · rintro w' ⟨s0, s1, s2⟩
                                go_simp
                                with_reducible rfl
                              rotate_left
                              · simp only [Act.put, List.setIfInBounds_toArray, List.set_cons_zero, List.set_cons_succ, i64_w, i32_w]
                                rfl
                              refine pure_ (i := 7) (N := some 68) (v := ?_) (a' := ?_) #[true, true, true, true, true, true, true, true, false, false] rfl rfl (by kernel_rfl) (fun _ _ _ h => h) (Or.inl ⟨by rfl, ?_⟩) ?_ ?_
                              rotate_left
                              · intro w'
                                go_simp
                                with_reducible rfl
                              rotate_left
                              · simp only [Act.put, List.setIfInBounds_toArray, List.set_cons_zero, List.set_cons_succ, i64_w, i32_w]
                                rfl
                              refine take_ (i := 8) (N := some 69) (v := ?_) (a' := ?_) #[true, true, true, true, true, true, true, true, true, false] rfl rfl (by kernel_rfl) (fun _ _ _ h => h) (Or.inl ⟨by rfl, ?_⟩) hHeld ?_ ?_
                              rotate_left
                              · rintro w' ⟨s0, s1, s2⟩
                                go_simp
                                with_reducible rfl
                              rotate_left
                              · simp only [Act.put, List.setIfInBounds_toArray, List.set_cons_zero, List.set_cons_succ, i64_w, i32_w]
                                rfl
                              refine last_ (i := 9) (N := some 70) #[true, true, true, true, true, true, true, true, true, true] rfl rfl (by kernel_rfl) (by decide) (fun K hK => ?_)
                              refine goes_ Try.func41 (by kernel_rfl) rfl #[.slice A5 (rd_L1 x (an : Int)).length c5, .slice (some ad6) (rd_L1 x i).length c6, .int .u8 (rd (rd_L1 x i) c)] (by rfl) rfl rfl (by simp only [List.map_toArray, List.map_cons, List.map_nil]; rfl) ?_
                              with_reducible refine (linear_take.calls k1 A5 c5 _ oki _ (rd_L1 x i) _ y w0 _ (below_drew1 HB.out) (fun W1 hk => HC5.out W1 (Kept.then_ (Kept.drew (Kept.refl wr oki)) hk (fun _ h => .inl h))) HL5.out (Kd.R_drew HR6.out) HT.out).mono ?_
                              rintro e w9 ⟨rfl, ho9, hb9, hk9⟩
                              refine ⟨_, rfl, ?_⟩
                              have HO9 := Aside0.mk ho9
                              have HB9 := Aside0.mk hb9
                              have HK9 := Aside0.mk hk9
                              clear ho9 hb9 hk9
                              refine hK.out _ _ ?_
                              clear hK K
                              refine norm_ (a' := ?_) ?_ ?_
                              rotate_left
                              · show Act.put _ (some 70) _ = _
                                simp only [Act.put, List.setIfInBounds_toArray, List.set_cons_zero, List.set_cons_succ, i64_w, i32_w]
                                rfl
                              refine done_ (by kernel_rfl) ?_

                              have HS9 := Aside0.mk (HBK.out _ y HK9.out HO9.out)
                              have HKN := Aside0.mk (Kept.then_ HK.out (show Kept wr w9 oki from HK9.out) (fun k hk => by
                                by_cases hkw : k < w.heap.size
                                · left
                                  by_cases hp : w0.heap.size ≤ k ∧ MatBlk w k
                                  · exact hp
                                  · exfalso
                                    obtain ⟨⟨_, hb1, _, q, hq, cells, hcell⟩, _⟩ := HOK.out k hk
                                    have := HK.out.2 k hkw hp
                                    refine hp ⟨hb1, q, ?_, cells, this.symm.trans hcell⟩
                                    simp [Kd.int, Kd.scalar] at hq
                                    exact hq
                                · right; omega))
                              have HXN := Aside0.mk (show w9.cell? ⟨w.heap.size, 0, none⟩ = some (.int .i64 c) from by
                                have hlt := World.block_lt_of_cell? _ _ hz3
                                refine Eq.trans ?_ hz3
                                exact World.cell?_of_block (HK9.out.2 _ hlt (fun hk => (HOK.out _ hk).1.1 rfl)))
                              go_wp2
                              go_roundg k1
                              case measure => have := HK1.out; omega
                              case rel => exact ⟨_, _, (by first | rfl | (simp; done) | (simp [*]; done)), H', ⟨by have := HK1.out; omega⟩, HS9, HB9, HKN, HXN⟩
                            · rw [if_neg t7] at H; exact absurd H (by simp)
                          · rw [if_neg t6] at H; exact absurd H (by simp)
                      · rw [if_pos r1, if_neg t4] at H; exact absurd H (by simp)
                    · rw [if_neg t3] at H; exact absurd H (by simp)
                  · rw [if_neg t2] at H; exact absurd H (by simp)
                · rw [if_neg t1] at H
                  have t1b : decide (i < (l.length : Int)) = false := decide_eq_false t1
                  obtain rfl := Option.some.inj H
                  clear H hxl
                  go_wp2
                  go_ret
                  exact ⟨rfl, Kd.S_mono HS.out (fun _ _ => trivial), HB.out, HK.out⟩
        · rw [if_neg p4] at h; exact absurd h (by simp)
      · rw [if_neg p3] at h; exact absurd h (by simp)
    · rw [if_neg p2] at h; exact absurd h (by simp)
  · rw [if_neg p1] at h; exact absurd h (by simp)
theorem linear_pivot.mono_l : ∀ k, ∀ y0 y1 y2 y3 y4, LeO (linear_pivot.l0 k y0 y1 y2 y3 y4) (linear_pivot.l0 (k + 1) y0 y1 y2 y3 y4)
  | 0 => fun _ _ _ _ _ r h => by simp [linear_pivot.l0] at h
  | k + 1 => by
    have ih0 := linear_pivot.mono_l k
    intro y0 y1 y2 y3 y4
    unfold linear_pivot.l0
    repeat' first
      | (with_reducible exact ih0 _ _ _ _ _)
      | (with_reducible exact linear_take.mono _ _ _ _)
      | (with_reducible exact LeO.refl _)
      | (with_reducible exact LeO.none _)
      | (with_reducible refine LeO.ite ?_ ?_)
      | (with_reducible refine LeO.bind ?_ (fun _ => ?_))
theorem linear_pivot.mono : ∀ a0 a1 a2 k, LeO (linear_pivot.f k a0 a1 a2) (linear_pivot.f (k + 1) a0 a1 a2) := by
  intro a0 a1 a2 k
  unfold linear_pivot.f
  repeat' first
      | (with_reducible exact linear_pivot.mono_l _ _ _ _ _ _)
      | (with_reducible exact gf_Inv.mono _ _)
      | (with_reducible exact gf_Scale.mono _ _ _)
      | (with_reducible exact LeO.refl _)
      | (with_reducible exact LeO.none _)
      | (with_reducible refine LeO.ite ?_ ?_)
      | (with_reducible refine LeO.bind ?_ (fun _ => ?_))

attribute [local go_sem] max2_int min2_int max_two min_two
def linear_Reduce.l0 : Nat → Int → List (List Int) → List Int → Int → Int → Option (List (List Int) × List Int)
  | 0, _, _, _, _, _ => none
  | k + 1, n, x, ps, b, c => if c < b then (if (ps.length : Int) < n then ((linear_pivot.f k x (ps.length : Int) c).bind fun r => if r.2 = true then (if ps.length < 17592186044416 then (linear_Reduce.l0 k n r.1 (ps ++ [c]) b (wrap64 (c + 1))) else none) else (linear_Reduce.l0 k n r.1 ps b (wrap64 (c + 1)))) else (linear_Reduce.l0 k n x ps b (wrap64 (c + 1)))) else some (x, ps)
def linear_Reduce.f (k : Nat) (l0 : List (List Int)) (a1 : Int) : Option (List (List Int) × List Int) :=
  (linear_Right.f l0).bind fun t => if t = true then ((linear_clone.f k l0).bind fun x => (linear_width.f l0).bind fun wd => linear_Reduce.l0 k (l0.length : Int) x [] (mn (mx a1 0) wd) 0) else some ([], [])
theorem linear_pivot.kept {base B : Nat} {ok : Nat → Prop} {w1 w2 : World} {v : Value} {ps : List Int} (h : Kd.R (Kd.int .i64) 3 w1 base ok v ps) (hk : Kept w1 w2 (fun k => B ≤ k ∧ MatBlk w1 k)) : Kd.R (Kd.int .i64) 3 w2 base ok v ps := by
  refine Kd.R_mono (Kd.R_step (Kd.R_tight2 rfl h) (fun k hk1 hlt => hk.2 k hlt (fun hm => ?_))) (fun k hk => hk.2)
  obtain ⟨_, q, hq, cells, hc⟩ := hm
  obtain ⟨cells', hc'⟩ := Kd.R_typed h k hk1.1.symm
  rw [hc] at hc'
  rcases hq with rfl | rfl <;> simp at hc'
set_option maxHeartbeats 8000000 in
set_option maxRecDepth 100000 in
theorem linear_Reduce.calls (k : Nat) (A0 : Option Addr) (c0 : Nat) (l0 : List (List Int)) (a1 : Int) (r1 : List (List Int)) (r2 : List Int) (w : World) (hr0 : Kd.C (Kd.slice 5 (Kd.int .u8)) w A0 l0.length l0) (hc0 : l0.length ≤ c0) (h : linear_Reduce.f k l0 a1 = some (r1, r2)) :
    Calls Try.prog 11 #[.slice A0 l0.length c0, .int .i64 a1] w fun e w' => ∃ v0_ v1_ : Value, e = .returned (.tuple #[v0_, v1_]) ∧ Kd.S (Kd.slice 5 (Kd.int .u8)) 23 w' w.heap.size (fun _ => True) v0_ r1 ∧ Kd.R (Kd.int .i64) 3 w' w.heap.size (fun _ => True) v1_ r2 ∧ Below w.heap.size w w' := by
  have HR0 := Aside0.mk hr0
  have HC0 := Aside0.mk hc0
  clear hr0 hc0
  have HB := Aside0.mk (Below.refl w.heap.size w)
  unfold linear_Reduce.f at h
  replace h := Option.bind_eq_some_iff.mp h
  obtain ⟨t, ht, h⟩ := h
  have HT := Aside0.mk ht
  clear ht
  by_cases c1 : t = true
  · rw [if_pos c1] at h
    subst c1
    replace h := Option.bind_eq_some_iff.mp h
    obtain ⟨x, hx, h⟩ := h
    replace h := Option.bind_eq_some_iff.mp h
    obtain ⟨wd, hwd, h⟩ := h
    have HX := Aside0.mk hx
    have HW := Aside0.mk hwd
    obtain ⟨m1, hm1⟩ : ∃ m, (if a1 < 0 then 0 else a1) = m := ⟨_, rfl⟩
    obtain ⟨b, hbb⟩ : ∃ b, (if wd < m1 then wd else m1) = b := ⟨_, rfl⟩
    rw [show mn (mx a1 0) wd = b from by unfold mx mn; rw [hm1, hbb]] at h
    have H' := Aside0.mk h
    clear hx hwd h
    go_enter Try.func11, Try.ntmps11
    go_wp2_with (first
      | (go_at_call 13; (with_reducible refine (linear_Right.calls _ _ l0 true _ ?side1 HC0.out HT.out).mono ?_); (case side1 => exact HR0.out); rintro e w1 ⟨rfl, hb⟩; have HB1 := Aside0.mk hb; clear hb)
      | (go_at_call 24; (with_reducible refine (linear_clone.calls k _ _ l0 x _ ?side1 HC0.out HX.out).mono ?_); (case side1 => exact Kd.C_below HR0.out HB1.out); rintro e w2 ⟨v0, rfl, ho, hb⟩; have HO2 := Aside0.mk ho; have HB2 := Aside0.mk hb; clear ho hb)
      | (go_at_call 25; (with_reducible refine (linear_width.calls _ _ l0 wd _ ?side1 HC0.out HW.out).mono ?_); (case side1 => exact Kd.C_below (Kd.C_below HR0.out HB1.out) HB2.out); rintro e w3 ⟨rfl, ⟨n3, rfl⟩⟩))
    go_loopg [5, 17] k (fun kq v5 v17 w' => ∃ (y : List (List Int)) (ps : List Int) (c : Int), v17 = .int .i64 c ∧ Aside0 (linear_Reduce.l0 kq (l0.length : Int) y ps b c = some (r1, r2)) ∧ Aside0 (kq ≤ k) ∧ Aside0 (Kd.S (Kd.slice 5 (Kd.int .u8)) 23 w' w.heap.size (fun _ => True) v0 y) ∧ Aside0 (Kd.R (Kd.int .i64) 3 w' w.heap.size (fun _ => True) v5 ps) ∧ Aside0 (Below w.heap.size w w'))
    case atStart => exact ⟨x, [], 0, rfl, H', ⟨Nat.le_refl _⟩, ⟨Kd.S_drewN (Kd.S_lower HO2.out HB1.out.size) n3⟩, ⟨Kd.R_nil _ _ _ _ _⟩, ⟨pw_below_drewN (below_step (below_step HB.out HB1.out) HB2.out) n3⟩⟩
    case round =>
      clear H' HB HB1 HB2 HO2 HX HW HT
      obtain ⟨y, ps, c, rfl, HA, HK1, HS, HO, HB⟩ := hrel
      cases gk with
      | zero => exact absurd HA.out (by simp [linear_Reduce.l0])
      | succ k1 =>
        have H := HA.out
        clear HA
        simp only [linear_Reduce.l0] at H
        obtain ⟨Ap, cp, ep⟩ := Kd.R_slice HO.out
        subst ep
        by_cases t1 : c < b
        · rw [if_pos t1] at H
          have t1b : decide (c < b) = true := decide_eq_true t1
          clear t1
          by_cases t2 : (ps.length : Int) < (l0.length : Int)
          · rw [if_pos t2] at H
            have t2b : decide ((ps.length : Int) < (l0.length : Int)) = true := decide_eq_true t2
            have t2c : decide (ps.length < l0.length) = true := decide_eq_true (by omega)
            clear t2
            replace H := Option.bind_eq_some_iff.mp H
            obtain ⟨⟨q1, q2⟩, hp, H⟩ := H
            have HP := Aside0.mk hp
            clear hp
            simp only at H
            cases q2 with
            | true =>
              rw [if_pos rfl] at H
              by_cases t3 : ps.length < 17592186044416
              · rw [if_pos t3] at H
                have H' := Aside0.mk H
                have HL := Aside0.mk t3
                clear H t3
                go_wp2_with (first
                  | (go_at_call 26; (with_reducible refine (linear_pivot.calls k1 v0 y (ps.length : Int) c q1 true w _ HB.out HS.out HP.out).mono ?_); rintro e w4 ⟨rfl, hs, hb, hk⟩; have HS4 := Aside0.mk hs; have HB4 := Aside0.mk hb; have HO4 := Aside0.mk (linear_pivot.kept HO.out hk); clear hs hb hk)
                  | ((with_reducible refine gate_builtin (b := .append) (xs := #[.tmp 32, .tmp 34]) rfl ?_); at_builtin; refine Kd.R_append (Kd.int .i64) (w0 := w) w.heap.size rfl (.tmp 32) (.tmp 34) 26 3 (.int .i64 0) 8 rfl Try.underlying26 info3 rfl (by decide) (by omega) (.slice Ap ps.length cp) ps c [.int .i64 c] (fun _ => True) (fun _ => False) rfl rfl ?aP (fun _ hk => hk.elim) ?aF ?aO ?aB ?aS ?aL ?_; (case aP => exact rfl); (case aB => exact HB4.out); (case aF => exact (fun _ _ => trivial)); (case aO => exact HO4.out); (case aS => exact below_size HB4.out); (case aL => have := HL.out; omega); intro v5 w5 ho hb hg hat; have HS5 := Aside0.mk (Kd.S_over' HS4.out (Kd.R_typed HO4.out) (by decide) hg); have HB5 := Aside0.mk hb; have HO5 := Aside0.mk ho; clear ho hb hg hat))
                go_roundg k1
                case measure => have := HK1.out; omega
                case rel => exact ⟨q1, ps ++ [c], _, rfl, H', ⟨by have := HK1.out; omega⟩, HS5, HO5, HB5⟩
              · rw [if_neg t3] at H; exact absurd H (by simp)
            | false =>
              rw [if_neg (by decide)] at H
              have H' := Aside0.mk H
              clear H
              go_wp2_with (first
                | (go_at_call 26; (with_reducible refine (linear_pivot.calls k1 v0 y (ps.length : Int) c q1 false w _ HB.out HS.out HP.out).mono ?_); rintro e w4 ⟨rfl, hs, hb, hk⟩; have HS4 := Aside0.mk hs; have HB4 := Aside0.mk hb; have HO4 := Aside0.mk (linear_pivot.kept HO.out hk); clear hs hb hk))
              go_roundg k1
              case measure => have := HK1.out; omega
              case rel => exact ⟨q1, ps, _, rfl, H', ⟨by have := HK1.out; omega⟩, HS4, HO4, HB4⟩
          · rw [if_neg t2] at H
            have t2b : decide ((ps.length : Int) < (l0.length : Int)) = false := decide_eq_false t2
            have t2c : decide (ps.length < l0.length) = false := decide_eq_false (by omega)
            have H' := Aside0.mk H
            clear H t2
            go_wp2
            go_roundg k1
            case measure => have := HK1.out; omega
            case rel => exact ⟨y, ps, _, rfl, H', ⟨by have := HK1.out; omega⟩, HS, HO, HB⟩
        · rw [if_neg t1] at H
          have t1b : decide (c < b) = false := decide_eq_false t1
          clear t1
          obtain ⟨rfl, rfl⟩ := Prod.mk.inj (Option.some.inj H)
          clear H
          go_wp2
          go_ret2
          exact ⟨_, _, rfl, HS.out, HO.out, HB.out⟩
  · rw [if_neg c1] at h
    obtain ⟨rfl, rfl⟩ := Prod.mk.inj (Option.some.inj h)
    have hf : t = false := by simpa using c1
    subst hf
    go_enter Try.func11, Try.ntmps11
    go_wp2_with (first | (go_at_call 13; (with_reducible refine (linear_Right.calls _ _ l0 false _ ?side1 HC0.out HT.out).mono ?_); (case side1 => exact HR0.out); rintro e w1 ⟨rfl, hb⟩; have HB1 := Aside0.mk hb; clear hb))
    go_ret2
    exact ⟨_, _, rfl, ⟨fun _ => 0, Kd.R_nil _ _ _ _ _⟩, Kd.R_nil _ _ _ _ _, HB1.out⟩
theorem linear_Reduce.mono_l : ∀ k, ∀ y0 y1 y2 y3 y4, LeO (linear_Reduce.l0 k y0 y1 y2 y3 y4) (linear_Reduce.l0 (k + 1) y0 y1 y2 y3 y4)
  | 0 => fun _ _ _ _ _ r h => by simp [linear_Reduce.l0] at h
  | k + 1 => by
    have ih0 := linear_Reduce.mono_l k
    intro y0 y1 y2 y3 y4
    unfold linear_Reduce.l0
    repeat' first
      | (with_reducible exact ih0 _ _ _ _ _)
      | (with_reducible exact linear_pivot.mono _ _ _ _)
      | (with_reducible exact LeO.refl _)
      | (with_reducible exact LeO.none _)
      | (with_reducible refine LeO.ite ?_ ?_)
      | (with_reducible refine LeO.bind ?_ (fun _ => ?_))
theorem linear_Reduce.mono : ∀ a0 a1 k, LeO (linear_Reduce.f k a0 a1) (linear_Reduce.f (k + 1) a0 a1) := by
  intro a0 a1 k
  unfold linear_Reduce.f
  repeat' first
      | (with_reducible exact linear_Reduce.mono_l _ _ _ _ _ _)
      | (with_reducible exact linear_clone.mono _ _)
      | (with_reducible exact LeO.refl _)
      | (with_reducible exact LeO.none _)
      | (with_reducible refine LeO.ite ?_ ?_)
      | (with_reducible refine LeO.bind ?_ (fun _ => ?_))

/-! ### linear_Rank: function 17 -/
def linear_Rank.f (k : Nat) (l0 : List (List Int)) : Option (Int) := (linear_width.f l0).bind fun t125 => ((linear_Reduce.f k l0 t125).bind fun bt126 => (some (bt126.2.length : Int)))
theorem linear_Rank.mono : ∀ a0 k, LeO (linear_Rank.f k a0) (linear_Rank.f (k + 1) a0) := by
  intro a0 k
  unfold linear_Rank.f
  repeat' first
      | (with_reducible exact linear_Reduce.mono _ _ _)
      | (with_reducible exact LeO.refl _)
      | (with_reducible exact LeO.none _)
      | (with_reducible refine LeO.ite ?_ ?_)
      | (with_reducible refine LeO.bind ?_ (fun _ => ?_))
      | exact linear_Reduce.mono _ _ _
      | exact LeO.none _
      | refine LeO.ite ?_ ?_
      | refine LeO.bind ?_ (fun _ => ?_)
set_option maxHeartbeats 8000000 in
set_option maxRecDepth 100000 in
theorem linear_Rank.calls (k : Nat) (A0 : Option Addr) (c0 : Nat) (l0 : List (List Int)) (r : Int) (w : World) (hr0 : Kd.C (Kd.slice 5 (Kd.int .u8)) w A0 l0.length l0) (hc0 : l0.length ≤ c0) (h : linear_Rank.f k l0 = some r) :
    Calls Try.prog 17 #[.slice A0 l0.length c0] w fun e w' => e = .returned (.int .i64 r) ∧ Below w.heap.size w w' := by
  have HR0 := Aside0.mk hr0
  have HC0 := Aside0.mk hc0
  clear hr0 hc0
  have HB := Aside0.mk (Below.refl w.heap.size w)
  have H : ((linear_width.f l0).bind fun t125 => ((linear_Reduce.f k l0 t125).bind fun bt126 => (some (bt126.2.length : Int)))) = some r := h
  clear h
  replace H := Option.bind_eq_some_iff.mp H
  obtain ⟨t125, A20, H⟩ := H
  replace H : ((linear_Reduce.f k l0 t125).bind fun bt126 => (some (bt126.2.length : Int))) = some r := H
  have A2 := Aside0.mk A20
  clear A20
  replace H := Option.bind_eq_some_iff.mp H
  obtain ⟨⟨t126, t127⟩, A30, H⟩ := H
  replace H : (some (t127.length : Int)) = some r := H
  have A3 := Aside0.mk A30
  clear A30
  obtain rfl := Option.some.inj H
  go_enter Try.func17, Try.ntmps17
  go_wp2_with (first | ((with_reducible refine gate_callee (f := 25) rfl ?_); refine goesL_ (some 8) rfl rfl Try.func25 (by kernel_rfl) rfl #[.slice A0 l0.length c0] rfl (by (try simp only [List.map_toArray, List.map_cons, List.map_nil]); first | done | rfl | (simp only [List.length_drop, List.length_take]; rfl)) ?_; (with_reducible refine (linear_width.calls _ _ l0 t125 _ ?side1 ?side2 A2.out).mono ?_); (case side1 => repeat (first | exact HR0.out | (with_reducible refine Kd.C_alloc ?_ _) | (with_reducible refine Kd.C_drewN ?_ _) | (with_reducible refine Kd.C_drew ?_))); (case side2 => exact HC0.out); rintro e w' ⟨rfl, ⟨nd, rfl⟩⟩; refine ⟨_, rfl, ?_⟩) | ((with_reducible refine gate_callee (f := 11) rfl ?_); refine goesL_ (some 9) rfl rfl Try.func11 (by kernel_rfl) rfl #[.slice A0 l0.length c0, .int .i64 t125] rfl (by (try simp only [List.map_toArray, List.map_cons, List.map_nil]); first | done | rfl | (simp only [List.length_drop, List.length_take]; rfl)) ?_; (with_reducible refine (linear_Reduce.calls k _ _ l0 t125 t126 t127 _ ?side1 ?side2 A3.out).mono ?_); (case side1 => repeat (first | exact HR0.out | (with_reducible refine Kd.C_alloc ?_ _) | (with_reducible refine Kd.C_drewN ?_ _) | (with_reducible refine Kd.C_drew ?_))); (case side2 => exact HC0.out); rintro e w4 ⟨v128, v130, rfl, ho0, ho1, hb⟩; refine ⟨_, rfl, ?_⟩; have n0_ := Aside0.mk (Kd.S_lower ho0 (below_size (by repeat (first | (with_reducible first | exact HB.out | apply below_alloc | apply pw_below_drewN | apply below_drew1) | exact HB.out)))); have n1_ := Aside0.mk (Kd.R_lower ho1 (below_size (by repeat (first | (with_reducible first | exact HB.out | apply below_alloc | apply pw_below_drewN | apply below_drew1) | exact HB.out)))); have n2_ := Aside0.mk (below_step (by repeat (first | (with_reducible first | exact HB.out | apply below_alloc | apply pw_below_drewN | apply below_drew1) | exact HB.out)) hb); clear HB; have HO129 := n0_; have HO131 := n1_; have HB := n2_; clear n0_ n1_ n2_; (try clear hb); (try clear hb2); (try clear hk); (try clear hi); (try clear ho0); (try clear ho1); obtain ⟨Ao5, co5, eo5⟩ := Kd.R_slice HO131.out; subst eo5))
  go_ret
  exact ⟨by first | rfl | (simp [errW_none, errW_some] <;> rfl) | (simp [*, errW_none, errW_some] <;> rfl), by repeat (first | (with_reducible first | exact HB.out | apply below_alloc | apply pw_below_drewN | apply below_drew1) | exact HB.out)⟩

end Go.Proofs.Ytanknpdibjfmlaa.P
