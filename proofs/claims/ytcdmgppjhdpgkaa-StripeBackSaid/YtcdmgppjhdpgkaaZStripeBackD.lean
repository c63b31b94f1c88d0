/- What the statement's proof uses: lemmas, and the program's functions as Lean functions; each theorem states its own conditions. Joined by a program. -/
import Derived.Test.YtcdmgppjhdpgkaaZStripeBackC
namespace Go.Proofs.Ytcdmgppjhdpgkaa.Al
open Go Go.RowKit Go.Proofs.YtcdmgppjhdpgkaaW.PrintWords Go.Proofs.YtcdmgppjhdpgkaaW.PrintMore Go.Proofs.Ytcdmgppjhdpgkaa.P
set_option linter.unusedVariables false
set_option linter.unusedSimpArgs false
theorem fidx_idx {α : Type} (p : α → Bool) : ∀ (l : List α) (i : Nat), fidx p l i = if l.findIdx p < l.length then ((i + l.findIdx p : Nat) : Int) else -1 := by
 intro l
 induction l with
 | nil => intro i; rfl
 | cons a l ih =>
  intro i
  rw [fidx, List.findIdx_cons]
  cases h : p a with
  | true => simp
  | false =>
   rw [if_neg (by simp), ih]
   simp only [Bool.cond_false, List.length_cons]
   by_cases e : l.findIdx p < l.length
   ·rw [if_pos e, if_pos (by omega)]; omega
   ·rw [if_neg e, if_neg (by omega)]
theorem findIdx_bss (p : List Int → Bool) (q : List G → Bool) (h : ∀ r, p (bs r) = q r) (M : List (List G)) : (bss M).findIdx p = M.findIdx q := by
 rw [bss, List.findIdx_map]
 congr 1
 funext r
 exact h r
def cols (a : Int) (w : Nat) : Nat := min a.toNat w
end Go.Proofs.Ytcdmgppjhdpgkaa.Al
namespace Go.Proofs.Ytcdmgppjhdpgkaa.Al
open Go Go.RowKit Go.Proofs.YtcdmgppjhdpgkaaW.PrintWords Go.Proofs.YtcdmgppjhdpgkaaW.PrintMore Go.Proofs.Ytcdmgppjhdpgkaa.P
set_option linter.unusedVariables false
set_option linter.unusedSimpArgs false
def crow (M : List (List G)) (i : Nat) : List G := M.map (fun c => co c i)
theorem crow_length (M : List (List G)) (i : Nat) : (crow M i).length = M.length := List.length_map _
theorem co_crow (M : List (List G)) (i j : Nat) (hj : j < M.length) : co (crow M i) j = co (row M j) i := by
 rw [row_lt hj, crow, co_lt (by rw [List.length_map]; exact hj), List.getElem_map]
theorem crow_snoc (M : List (List G)) (n i : Nat) (h : n < M.length) : crow (M.take n) i ++ [co (row M n) i] = crow (M.take (n + 1)) i := by
 rw [← row_snoc_take h, crow, crow, List.map_append]; rfl
theorem row_l0 (M : List (List G)) (i w : Nat) (hM : Fit M) (hw : Wd M w) (hi : i < w) (d : Nat) : ∀ n : Nat, n + d = M.length →
 Ev (fun k => stripe_row.l0 k (i : Int) (bs (crow (M.take n) i)) (bss M) (M.length : Int) (n : Int)) (bs (crow M i)) := by
 have h1 := hM.1
 induction d with
 | zero =>
  intro n hn
  obtain rfl : n = M.length := by omega
  exact Ev.step (fun k => stripe_row.l0.eq_2 _ _ _ _ _ _) (Ev.neg (by omega) (evc (Ev.now _) (by rw [List.take_length])))
 | succ d ih =>
  intro n hn
  have hr := hw n (by omega)
  have hl := hM.2 n (by omega)
  refine Ev.step (fun k => stripe_row.l0.eq_2 _ _ _ _ _ _) (Ev.pos (by omega) (Ev.pos (by omega) (Ev.pos (by rw [bss_length]; omega) (Ev.pos (by omega) ?_))))
  rw [rd_bss, bs_length, rd_bs, wrap_succ (by omega)]
  refine Ev.pos (by omega) (Ev.pos (by rw [bs_length, crow_length, List.length_take]; omega) ?_)
  have e : bs (crow (M.take n) i) ++ [(co (row M n) i).i] = bs (crow (M.take (n + 1)) i) := by
   rw [← crow_snoc M n i (by omega), bs_append]; rfl
  rw [e]
  exact ih (n + 1) (by omega)
theorem row_ev (M : List (List G)) (i w : Nat) (hM : Fit M) (hw : Wd M w) (hi : i < w) : Ev (fun k => stripe_row.f k (bss M) (i : Int)) (bs (crow M i)) := by
 refine Ev.congr (fun k => stripe_row.f.eq_1 _ _ _) ?_
 rw [bss_length]
 exact row_l0 M i w hM hw hi M.length 0 (by omega)
def par (M : List (List G)) (k w : Nat) : List (List G) := tabR k (fun j => tab w (fun i => co (more (crow M i) k) j))
theorem par_length (M : List (List G)) (k w : Nat) : (par M k w).length = k := tabR_length _ _
theorem row_par (M : List (List G)) {k w j : Nat} (h : j < k) : row (par M k w) j = tab w (fun i => co (more (crow M i) k) j) := row_tabR _ _ _ h
def parm (M : List (List G)) (k w m : Nat) : List (List G) := tabR k (fun j => tab (if j < m then w + 1 else w) (fun i => co (more (crow M i) k) j))
theorem parm_zero (M : List (List G)) (k w : Nat) : parm M k w 0 = par M k w := by
 unfold parm par
 congr 1
theorem parm_all (M : List (List G)) (k w : Nat) : parm M k w k = par M k (w + 1) := by
 apply ext_row
 ·rw [parm, par, tabR_length, tabR_length]
 ·intro j hj
  rw [parm, tabR_length] at hj
  rw [parm, par, row_tabR _ _ _ hj, row_tabR _ _ _ hj, if_pos hj]
theorem parm_set (M : List (List G)) (k w m : Nat) (hm : m < k) : (parm M k w m).set m (row (parm M k w m) m ++ [co (more (crow M w) k) m]) = parm M k w (m + 1) := by
 apply ext_row
 ·rw [List.length_set, parm, parm, tabR_length, tabR_length]
 ·intro j hj
  rw [List.length_set, parm, tabR_length] at hj
  have e1 : (parm M k w m).length = k := tabR_length _ _
  have e2 : ∀ m' j', j' < k → row (parm M k w m') j' = tab (if j' < m' then w + 1 else w) (fun i => co (more (crow M i) k) j') := fun m' j' h => row_tabR _ _ _ h
  rw [row_set _ _ _ _ (by rw [e1]; exact hm), e2 _ _ hm, e2 _ _ hj, e2 _ _ hj]
  by_cases e : j = m
  ·subst e
   rw [if_pos rfl, if_neg (Nat.lt_irrefl _), if_pos (Nat.lt_succ_self _), tab_succ]
  ·rw [if_neg e]
   by_cases e3 : j < m
   ·rw [if_pos e3, if_pos (show j < m + 1 by omega)]
   ·rw [if_neg e3, if_neg (show ¬ j < m + 1 by omega)]
theorem parity_l1 (M : List (List G)) (k w i : Nat) (hk : k ≤ 255) (hi : i < 1000000) (d : Nat) : ∀ (m : Nat) (r : List (List Int) × Int), m + d = k →
 Ev (fun f => stripe_Parity.l0 f (k : Int) (bss M) (bss (par M k (i + 1))) (w : Int) (wrap64 ((i : Int) + 1))) r →
 Ev (fun f => stripe_Parity.l1 f (k : Int) (bss M) (bss (parm M k i m)) (w : Int) (i : Int) (bs (more (crow M i) k)) (k : Int) (m : Int)) r := by
 induction d with
 | zero =>
  intro m r hm h
  obtain rfl : m = k := by omega
  refine Ev.step (fun f => stripe_Parity.l1.eq_2 _ _ _ _ _ _ _ _ _) (Ev.neg (by omega) ?_)
  rw [parm_all]
  exact h
 | succ d ih =>
  intro m r hm h
  have hl : (parm M k i m).length = k := tabR_length _ _
  have hr : (row (parm M k i m) m).length = i := by rw [parm, row_tabR _ _ _ (by omega), tab_length, if_neg (by omega)]
  refine Ev.step (fun f => stripe_Parity.l1.eq_2 _ _ _ _ _ _ _ _ _) (Ev.pos (by omega) (Ev.pos (by omega) (Ev.pos (by rw [bs_length, more_length]; omega) (Ev.pos (by rw [bss_length, hl]; omega) ?_))))
  rw [rd_bss, rd_bs, wrap_succ (by omega), Int.toNat_natCast]
  have e : bs (row (parm M k i m) m) ++ [(co (more (crow M i) k) m).i] = bs (row (parm M k i m) m ++ [co (more (crow M i) k) m]) := by rw [bs_append]; rfl
  refine Ev.pos (by rw [bs_length, hr]; omega) ?_
  rw [e, bss_set, parm_set M k i m (by omega)]
  exact ih (m + 1) r (by omega) h
theorem parity_l0 (M : List (List G)) (k w : Nat) (hM : Fit M) (hw : Wd M w) (h0 : 0 < M.length) (hk : M.length + k ≤ 255) (d : Nat) : ∀ i : Nat, i + d = w →
 Ev (fun f => stripe_Parity.l0 f (k : Int) (bss M) (bss (par M k i)) (w : Int) (i : Int)) (bss (par M k w), 0) := by
 have hww : w < 1000000 := by rw [← hw 0 h0]; exact hM.2 0 h0
 induction d with
 | zero =>
  intro i hi
  obtain rfl : i = w := by omega
  exact Ev.step (fun k => stripe_Parity.l0.eq_2 _ _ _ _ _ _) (Ev.neg (by omega) (Ev.now _))
 | succ d ih =>
  intro i hi
  refine Ev.step (fun k => stripe_Parity.l0.eq_2 _ _ _ _ _ _) (Ev.pos (by omega) (Ev.bind (row_ev M i w hM hw (by omega)) (Ev.bind (encode_ev (crow M i) k (by rw [crow_length]; omega) (by rw [crow_length]; omega)) ?_)))
  dsimp only
  rw [bs_length, more_length, ← parm_zero]
  refine parity_l1 M k w i (by omega) (by omega) k 0 _ (by omega) ?_
  rw [wrap_succ (by omega)]
  exact ih (i + 1) (by omega)
theorem fidx_rt (M : List (List G)) : decide (fidx (fun x => (x.length : Int) != ((rd_L1 (bss M) 0).length : Int)) (bss M) 0 ≥ 0) = decide (¬ Rt M) := by
 rw [fidx_idx, findIdx_bss _ (fun r => decide (r.length ≠ wid M)) (fun r => by
  rw [rd_bss0, bs_length, bs_length]
  show (!((r.length : Int) == ((row M 0).length : Int))) = _
  unfold wid
  by_cases e : r.length = (row M 0).length
  ·rw [decide_eq_false (by simp [e])]
   simp [e]
  ·rw [decide_eq_true e]
   simp
   omega), bss_length]
 rw [decide_eq_decide]
 by_cases h : M.findIdx (fun r => decide (r.length ≠ wid M)) < M.length
 ·rw [if_pos h]
  refine iff_of_true (by omega) (fun hr => ?_)
  have h2 := List.findIdx_getElem (w := h)
  rw [← row_lt h] at h2
  exact (of_decide_eq_true h2) (hr _ h)
 ·rw [if_neg h]
  refine iff_of_false (by omega) (fun hn => hn ?_)
  intro i hi
  have h3 := List.not_of_lt_findIdx (p := fun r => decide (r.length ≠ wid M)) (xs := M) (i := i) (by omega)
  rw [← row_lt hi] at h3
  simpa using h3
theorem parity_ev (M : List (List G)) (k w : Nat) (hM : Fit M) (hw : Wd M w) (h0 : 0 < M.length) (hk : M.length + k ≤ 255) : Ev (fun f => stripe_Parity.f f (bss M) (k : Int)) (bss (par M k w), 0) := by
 have hr : wid M = w := hw 0 h0
 have hR : Rt M := by unfold Rt; rw [hr]; exact hw
 refine Ev.congr (fun k => stripe_Parity.f.eq_1 _ _ _) (Ev.neg (by rw [bss_length]; omega) (Ev.neg (by omega) ?_))
 rw [fidx_rt, decide_eq_false (fun h => h hR)]
 refine Ev.step (fun k => stripe_Parity.j0.eq_2 _ _ _ _) (Ev.neg (by simp) (Ev.neg (by omega) ?_))
 rw [bss_length, wrap_sm (by omega) (by omega), decide_eq_false (by omega)]
 refine Ev.step (fun k => stripe_Parity.j1.eq_2 _ _ _ _) (Ev.neg (by simp) (Ev.pos (by omega) (Ev.pos (by rw [Int.toNat_natCast]; omega) (Ev.pos (by rw [bss_length]; omega) ?_))))
 have e : (List.replicate (k : Int).toNat [] : List (List Int)) = bss (par M k 0) := by
  rw [Int.toNat_natCast]
  apply List.ext_getElem
  ·rw [List.length_replicate, bss_length, par_length]
  ·intro j h1 h2
   rw [List.getElem_replicate]
   have hj : j < k := by rw [List.length_replicate] at h1; exact h1
   have := rd_bss (par M k 0) j
   rw [row_par M hj, tab_zero] at this
   simp only [rd_L1, Int.toNat_natCast, List.getD_eq_getElem?_getD, List.getElem?_eq_getElem h2] at this
   exact this.symm
 rw [e, rd_bss0, bs_length]
 have : (row M 0).length = w := hr
 rw [this]
 exact parity_l0 M k w hM hw h0 hk w 0 (by omega)
end Go.Proofs.Ytcdmgppjhdpgkaa.Al
namespace Go.Proofs.Ytcdmgppjhdpgkaa.Al
open Go Go.RowKit Go.Proofs.YtcdmgppjhdpgkaaW.PrintWords Go.Proofs.YtcdmgppjhdpgkaaW.PrintMore Go.Proofs.Ytcdmgppjhdpgkaa.P
set_option linter.unusedVariables false
set_option linter.unusedSimpArgs false
theorem alive_ev : Ev (fun k => footlockerlaw23_alive.f k) true :=
 Ev.of (fun k => footlockerlaw23_alive.mono k) (k := 60) (by decide +kernel)
end Go.Proofs.Ytcdmgppjhdpgkaa.Al
namespace Go.Proofs.Ytcdmgppjhdpgkaa.Al
open Go Go.RowKit Go.Proofs.YtcdmgppjhdpgkaaW.PrintWords Go.Proofs.YtcdmgppjhdpgkaaW.PrintMore Go.Proofs.Ytcdmgppjhdpgkaa.P
set_option linter.unusedVariables false
set_option linter.unusedSimpArgs false
theorem put_l0 (d : Nat) : ∀ (i : Nat) (l : List Int), i + d = 8 → l.length < 1000 + i → Ev (fun k => little_Put.l0 k 0 l 8 (i : Int)) (l ++ List.replicate d 0) := by
 induction d with
 | zero =>
  intro i l hi _
  exact Ev.step (fun k => little_Put.l0.eq_2 _ _ _ _ _) (Ev.neg (by omega) (evc (Ev.now _) (by simp)))
 | succ d ih =>
  intro i l hi hl
  refine Ev.step (fun k => little_Put.l0.eq_2 _ _ _ _ _) (Ev.pos (by omega) (Ev.pos (by omega) ?_))
  rw [wrap_succ (by omega)]
  refine evc (ih (i + 1) (l ++ [0 % 256]) (by omega) (by simp only [List.length_append, List.length_singleton]; omega)) ?_
  rw [List.append_assoc, List.replicate_succ]; rfl
theorem put_ev (n : Nat) (h : n < 256) : Ev (fun k => little_Put.f k (n : Int) 8) ((n : Int) :: List.replicate 7 0) := by
 refine Ev.congr (fun k => little_Put.f.eq_1 _ _ _) (Ev.somef (f := fun k t => little_Put.l0 k (n : Int) [] t 0) ?_)
 show Ev (fun k => little_Put.l0 k (n : Int) [] 8 0) _
 refine Ev.step (fun k => little_Put.l0.eq_2 _ _ _ _ _) (Ev.pos (by omega) (Ev.pos (by simp) ?_))
 have e1 : (n : Int) / 256 = 0 := by omega
 have e2 : (n : Int) % 256 = n := by omega
 rw [e1, e2, show wrap64 (0 + 1) = ((1 : Nat) : Int) from (wrap_sm (by omega) (by omega)).trans (by decide)]
 exact put_l0 7 1 [(n : Int)] (by omega) (by simp)
theorem or_small : ∀ n : Fin 256, Go.bits .or .u64 (IntKind.u64.wrap (0 * 256)) (IntKind.u64.wrap ((n.val : Nat) : Int)) = ((n.val : Nat) : Int) := by decide +kernel
theorem get_l0 (l : List Int) (n : Nat) (h8 : 8 ≤ l.length) (hn : n < 256) (h0 : rd l 0 = n) (hz : ∀ i : Nat, 1 ≤ i → i < 8 → rd l (i : Int) = 0) (d : Nat) : ∀ i : Nat, i + 1 = d → d ≤ 8 →
 Ev (fun k => little_Get.l0 k l 0 (i : Int)) (n : Int) := by
 induction d with
 | zero => intro i hi; omega
 | succ d ih =>
  intro i hi hd
  refine Ev.step (fun k => little_Get.l0.eq_2 _ _ _ _) (Ev.pos (by omega) (Ev.pos (by omega) (Ev.pos (by omega) ?_)))
  by_cases e : i = 0
  ·subst e
   rw [show ((0 : Nat) : Int) = 0 from rfl, h0, or_small ⟨n, hn⟩]
   exact Ev.step (fun k => little_Get.l0.eq_2 _ _ _ _) (Ev.neg (by rw [wrap_sm (by omega) (by omega)]; omega) (Ev.now _))
  ·rw [hz i (by omega) (by omega)]
   have := or_small ⟨0, by omega⟩
   rw [show (Go.bits .or .u64 (IntKind.u64.wrap (0 * 256)) (IntKind.u64.wrap 0)) = 0 from this, wrap_sm (by omega) (by omega)]
   have e2 : (i : Int) - 1 = ((i - 1 : Nat) : Int) := by omega
   rw [e2]
   exact ih (i - 1) (by omega) (by omega)
theorem get_ev (l : List Int) (n : Nat) (h8 : l.length = 8) (hn : n < 256) (h0 : rd l 0 = n) (hz : ∀ i : Nat, 1 ≤ i → i < 8 → rd l (i : Int) = 0) : Ev (fun k => little_Get.f k l) (n : Int) := by
 refine Ev.congr (fun k => little_Get.f.eq_1 _ _) ?_
 have e : (mn (l.length : Int) 8) - 1 = ((7 : Nat) : Int) := by rw [h8]; rfl
 rw [e]
 exact get_l0 l n (by omega) hn h0 hz 8 7 (by omega) (by omega)
theorem concat_ev (a b c : List Int) (h : a.length + b.length + c.length < 1000000) : Ev (fun k => slices_Concat_byte_byte.f k [a, b, c]) (a ++ b ++ c) := by
 have r0 : rd_L1 [a, b, c] 0 = a := rfl
 have r1 : rd_L1 [a, b, c] 1 = b := rfl
 have r2 : rd_L1 [a, b, c] 2 = c := rfl
 have hl : (([a, b, c] : List (List Int)).length : Int) = 3 := rfl
 have g1 : wrap64 (0 + (a.length : Int)) = (a.length : Int) := by rw [wrap_sm (by omega) (by omega)]; omega
 have g2 : wrap64 ((a.length : Int) + (b.length : Int)) = ((a.length + b.length : Nat) : Int) := by rw [wrap_sm (by omega) (by omega)]; omega
 have g3 : wrap64 (((a.length + b.length : Nat) : Int) + (c.length : Int)) = ((a.length + b.length + c.length : Nat) : Int) := by rw [wrap_sm (by omega) (by omega)]; omega
 have s1 : wrap64 (0 + 1) = 1 := (wrap_sm (by omega) (by omega)).trans (by decide)
 have s2 : wrap64 (1 + 1) = 2 := (wrap_sm (by omega) (by omega)).trans (by decide)
 have s3 : wrap64 (2 + 1) = 3 := (wrap_sm (by omega) (by omega)).trans (by decide)
 refine Ev.congr (fun k => slices_Concat_byte_byte.f.eq_1 _ _) ?_
 rw [hl]
 refine Ev.step (fun k => slices_Concat_byte_byte.l0.eq_2 _ _ _ _ _ _) (Ev.pos (by omega) (Ev.pos (by omega) (Ev.pos (by rw [hl]; omega) ?_)))
 rw [r0, g1, s1]
 refine Ev.neg (by omega) (Ev.step (fun k => slices_Concat_byte_byte.l0.eq_2 _ _ _ _ _ _) (Ev.pos (by omega) (Ev.pos (by omega) (Ev.pos (by rw [hl]; omega) ?_))))
 rw [r1, g2, s2]
 refine Ev.neg (by omega) (Ev.step (fun k => slices_Concat_byte_byte.l0.eq_2 _ _ _ _ _ _) (Ev.pos (by omega) (Ev.pos (by omega) (Ev.pos (by rw [hl]; omega) ?_))))
 rw [r2, g3, s3]
 refine Ev.neg (by omega) (Ev.step (fun k => slices_Concat_byte_byte.l0.eq_2 _ _ _ _ _ _) (Ev.neg (by omega) ?_))
 have hg : slices_Grow_byte_byte.f [] ((a.length + b.length + c.length : Nat) : Int) = some [] := by
  unfold slices_Grow_byte_byte.f
  rw [if_pos ⟨rfl, by omega, by omega⟩]
 rw [hg]
 refine Ev.somef (f := fun k t => slices_Concat_byte_byte.l1 k t [a, b, c] _ 0) ?_
 rw [hl]
 refine Ev.step (fun k => slices_Concat_byte_byte.l1.eq_2 _ _ _ _ _) (Ev.pos (by omega) (Ev.pos (by omega) (Ev.pos (by rw [hl]; omega) ?_)))
 rw [r0, s1, List.nil_append]
 refine Ev.pos (by rw [List.length_nil]; omega) (Ev.step (fun k => slices_Concat_byte_byte.l1.eq_2 _ _ _ _ _) (Ev.pos (by omega) (Ev.pos (by omega) (Ev.pos (by rw [hl]; omega) ?_))))
 rw [r1, s2]
 refine Ev.pos (by omega) (Ev.step (fun k => slices_Concat_byte_byte.l1.eq_2 _ _ _ _ _) (Ev.pos (by omega) (Ev.pos (by omega) (Ev.pos (by rw [hl]; omega) ?_))))
 rw [r2, s3]
 exact Ev.pos (by rw [List.length_append]; omega) (Ev.step (fun k => slices_Concat_byte_byte.l1.eq_2 _ _ _ _ _) (Ev.neg (by omega) (Ev.now _)))
def colI (b : List Int) (m : Nat) : List Int := (((b.length : Nat) : Int) :: List.replicate 7 0) ++ b ++ List.replicate (m - b.length) 0
theorem colI_length (b : List Int) (m : Nat) (h : b.length ≤ m) : (colI b m).length = m + 8 := by
 unfold colI
 simp only [List.length_append, List.length_cons, List.length_replicate]
 omega
theorem column_ev (b : List Int) (m : Nat) (hb : b.length < 256) (h5 : 5 ≤ m) (hm : m ≤ 300) (h : b.length ≤ m) : Ev (fun k => stripe_Column.f k b (m : Int)) (colI b m, 0) := by
 have hs : stripe_sized.f (m : Int) = some true := by
  unfold stripe_sized.f
  rw [if_pos (by omega), decide_eq_true (by omega)]
 have hw : IntKind.u64.wrap ((b.length : Nat) : Int) = ((b.length : Nat) : Int) := by rw [IntKind.wrap_u64]; omega
 have he : wrap64 ((m : Int) - (b.length : Int)) = ((m - b.length : Nat) : Int) := by rw [wrap_sm (by omega) (by omega)]; omega
 refine Ev.congr (fun k => stripe_Column.f.eq_1 _ _ _) ?_
 rw [hs, hw, he, Int.toNat_natCast]
 refine Ev.somef (Ev.pos rfl (Ev.neg (by omega) (Ev.bind (put_ev b.length hb) (Ev.pos (by omega) (Ev.pos (by omega) (Ev.bind (concat_ev _ _ _ ?_) (Ev.now _)))))))
 simp only [List.length_cons, List.length_replicate]
 omega
theorem column_no (b : List Int) (m : Int) (h : m < 5) : Ev (fun k => stripe_Column.f k b m) ([], 1) := by
 have hs : stripe_sized.f m = some false := by
  unfold stripe_sized.f
  rw [if_neg (by omega)]
 refine Ev.congr (fun k => stripe_Column.f.eq_1 _ _ _) ?_
 rw [hs]
 exact Ev.somef (Ev.neg (by simp) (Ev.now _))
theorem column_long (b : List Int) (m : Int) (h5 : 5 ≤ m) (hm : m ≤ 300) (h : (b.length : Int) > m) : Ev (fun k => stripe_Column.f k b m) ([], 2) := by
 have hs : stripe_sized.f m = some true := by
  unfold stripe_sized.f
  rw [if_pos (by omega), decide_eq_true (by omega)]
 refine Ev.congr (fun k => stripe_Column.f.eq_1 _ _ _) ?_
 rw [hs]
 exact Ev.somef (Ev.pos rfl (Ev.pos h (Ev.now _)))
theorem fidx_none (l : List Int) (h : ∀ x ∈ l, x = 0) : ∀ i, fidx (fun x : Int => !(x == 0)) l i = -1 := by
 induction l with
 | nil => intro i; rfl
 | cons a l ih =>
  intro i
  rw [fidx, if_neg (by rw [h a List.mem_cons_self]; decide)]
  exact ih (fun x hx => h x (List.mem_cons_of_mem _ hx)) (i + 1)
theorem volume_ev (b : List Int) (m : Nat) (hb : b.length < 256) (hm : m ≤ 300) (h : b.length ≤ m) : Ev (fun k => stripe_Volume.f k (colI b m)) (b, 0) := by
 have hl := colI_length b m h
 have ht : (colI b m).take 8 = ((b.length : Nat) : Int) :: List.replicate 7 0 := by
  unfold colI
  rw [List.append_assoc, List.take_append_of_le_length (by simp), List.take_of_length_le (by simp)]
 have hd : (colI b m).drop 8 = b ++ List.replicate (m - b.length) 0 := by
  unfold colI
  rw [List.append_assoc, List.drop_append_of_le_length (by simp), List.drop_eq_nil_of_le (by simp), List.nil_append]
 refine Ev.congr (fun k => stripe_Volume.f.eq_1 _ _) (Ev.neg (by omega) ?_)
 rw [ht, hd]
 refine Ev.bind (get_ev _ b.length (by simp) hb rfl (fun i h1 h2 => ?_)) (Ev.neg (by omega) (Ev.neg (by omega) ?_))
 ·obtain ⟨j, rfl⟩ : ∃ j, i = j + 1 := ⟨i - 1, by omega⟩
  rw [rd, Int.toNat_natCast, List.getD_cons_succ, List.getD_eq_getElem?_getD, List.getElem?_replicate]
  split <;> rfl
 ·rw [Int.toNat_natCast, List.drop_left, List.take_left, fidx_none _ (fun x hx => (List.mem_replicate.1 hx).2), clone_some b (by omega)]
  exact Ev.neg (by decide) (Ev.somef (f := fun k y => some (y, 0)) (Ev.now _))
end Go.Proofs.Ytcdmgppjhdpgkaa.Al
namespace Go.Proofs.Ytcdmgppjhdpgkaa.Pure
open Go Go.RowKit Go.Proofs.YtcdmgppjhdpgkaaW.PrintWords Go.Proofs.YtcdmgppjhdpgkaaW.PrintMore Go.Proofs.Ytcdmgppjhdpgkaa.P Go.Proofs.Ytcdmgppjhdpgkaa.Al
set_option linter.unusedVariables false
set_option linter.unusedSimpArgs false
set_option linter.unusedSectionVars false
def colG (b : List G) (m : Nat) : List G := (G.of ((b.length : Nat) : Int) :: List.replicate 7 0) ++ b ++ List.replicate (m - b.length) 0
theorem colG_length (b : List G) (m : Nat) (h : b.length ≤ m) : (colG b m).length = m + 8 := by
 unfold colG
 simp only [List.length_append, List.length_cons, List.length_replicate]
 omega
theorem bs_colG (b : List G) (m : Nat) (hb : b.length < 256) : bs (colG b m) = colI (bs b) m := by
 unfold colG colI
 rw [bs_append, bs_append, bs_length, ← bs_replicate]
 have e : bs (G.of ((b.length : Nat) : Int) :: List.replicate 7 0) = ((b.length : Nat) : Int) :: List.replicate 7 0 := by
  show (G.of _).i :: bs (List.replicate 7 0) = _
  rw [i_of (by omega) (by omega)]
  rfl
 rw [e]
def cols (M : List (List G)) (m n : Nat) : List (List G) := tabR n (fun i => colG (row M i) m)
theorem cols_length (M : List (List G)) (m n : Nat) : (cols M m n).length = n := tabR_length _ _
theorem row_cols (M : List (List G)) (m : Nat) {n i : Nat} (h : i < n) : row (cols M m n) i = colG (row M i) m := row_tabR _ _ _ h
section
variable (M : List (List G)) (m k : Nat) (h0 : 0 < M.length) (hM : M.length ≤ 8) (h5 : 5 ≤ m) (hm : m ≤ 40) (hk : k ≤ 8) (hw : ∀ i, i < M.length → (row M i).length ≤ m)
include h0 hM h5 hm hk hw
theorem cols_wd : Wd (cols M m M.length) (m + 8) := fun i hi => by
 rw [cols_length] at hi
 rw [row_cols M m hi, colG_length _ _ (hw i hi)]
def allc : List (List G) := cols M m M.length ++ par (cols M m M.length) k (m + 8)
omit h0 hM h5 hm hk hw in
theorem allc_length : (allc M m k).length = M.length + k := by rw [allc, List.length_append, cols_length, par_length]
theorem row_allc_length {i : Nat} (hi : i < M.length + k) : (row (allc M m k) i).length = m + 8 := by
 rw [allc, row_append, cols_length]
 by_cases h : i < M.length
 ·rw [if_pos h, row_cols M m h, colG_length _ _ (hw i h)]
 ·rw [if_neg h, row_par _ (by omega), tab_length]
theorem crow_allc {i : Nat} (hi : i < m + 8) : IsWord (crow (allc M m k) i) M.length := by
 have e : crow (allc M m k) i = word (crow (cols M m M.length) i) k := by
  have hl : (crow (cols M m M.length) i).length = M.length := by rw [crow_length, cols_length]
  rw [← word_eq _ _ (by omega)]
  unfold allc
  rw [crow, List.map_append]
  congr 1
  apply ext_co
  ·rw [List.length_map, par_length, more_length]
  ·intro j hj
   rw [List.length_map, par_length] at hj
   have := co_crow (par (cols M m M.length) k (m + 8)) i j (by rw [par_length]; exact hj)
   rw [crow] at this
   rw [this, row_par _ hj, co_tab, if_pos hi]
 have := word_isWord (crow (cols M m M.length) i) k (by rw [crow_length, cols_length]; omega)
 rw [← e, crow_length, cols_length] at this
 exact this
theorem back_l2 (i : Nat) (hi : i < m + 8) (hnext : Ev (fun f => footlockerlaw23_StripeBack.l1 f (bss M) (bss (allc M m k)) ((m + 8 : Nat) : Int) (wrap64 ((i : Int) + 1))) true) (d : Nat) : ∀ n : Nat, n + d = M.length + k →
 Ev (fun f => footlockerlaw23_StripeBack.l2 f (bss M) (bss (allc M m k)) (i : Int) (bs (crow ((allc M m k).take n) i)) ((m + 8 : Nat) : Int) (i : Int) (bss (allc M m k)) ((M.length + k : Nat) : Int) (n : Int)) true := by
 have hal := allc_length M m k
 induction d with
 | zero =>
  intro n hn
  obtain rfl : n = M.length + k := by omega
  refine Ev.step (fun k => footlockerlaw23_StripeBack.l2.eq_2 _ _ _ _ _ _ _ _ _ _) (Ev.neg (by omega) ?_)
  rw [List.take_of_length_le (by omega), bss_length]
  exact Ev.bind (is_true _ _ (by omega) (by rw [crow_length, hal]; omega) (by rw [crow_length, hal]; omega) (crow_allc M m k h0 hM h5 hm hk hw hi)) (Ev.pos rfl hnext)
 | succ d ih =>
  intro n hn
  have hr := row_allc_length M m k h0 hM h5 hm hk hw (i := n) (by omega)
  refine Ev.step (fun k => footlockerlaw23_StripeBack.l2.eq_2 _ _ _ _ _ _ _ _ _ _) (Ev.pos (by omega) (Ev.pos (by omega) (Ev.pos (by rw [bss_length, hal]; omega) ?_)))
  rw [rd_bss, bs_length, hr, rd_bs, wrap_succ (by omega)]
  refine Ev.neg (by omega) (Ev.pos (by omega) (Ev.pos (by omega) (Ev.pos (by rw [bs_length, crow_length, List.length_take]; omega) ?_)))
  have e : bs (crow ((allc M m k).take n) i) ++ [(co (row (allc M m k) n) i).i] = bs (crow ((allc M m k).take (n + 1)) i) := by
   rw [← crow_snoc (allc M m k) n i (by omega), bs_append]; rfl
  rw [e]
  exact ih (n + 1) (by omega)
theorem back_l1 (d : Nat) : ∀ i : Nat, i + d = m + 8 → Ev (fun f => footlockerlaw23_StripeBack.l1 f (bss M) (bss (allc M m k)) ((m + 8 : Nat) : Int) (i : Int)) true := by
 have hal := allc_length M m k
 induction d with
 | zero =>
  intro i hi
  exact Ev.step (fun k => footlockerlaw23_StripeBack.l1.eq_2 _ _ _ _ _) (Ev.neg (by omega) (Ev.now _))
 | succ d ih =>
  intro i hi
  refine Ev.step (fun k => footlockerlaw23_StripeBack.l1.eq_2 _ _ _ _ _) (Ev.pos (by omega) ?_)
  rw [bss_length, hal]
  refine back_l2 M m k h0 hM h5 hm hk hw i (by omega) ?_ (M.length + k) 0 (by omega)
  rw [wrap_succ (by omega)]
  exact ih (i + 1) (by omega)
theorem back_end : Ev (fun f => footlockerlaw23_StripeBack.l0 f (bss M) (m : Int) (k : Int) (bss (cols M m M.length)) (bss M) (M.length : Int) (M.length : Int)) true := by
 have hwd := cols_wd M m k h0 hM h5 hm hk hw
 refine Ev.step (fun k => footlockerlaw23_StripeBack.l0.eq_2 _ _ _ _ _ _ _ _) (Ev.neg (by omega) (Ev.bind (parity_ev _ k (m + 8) (Fit.of (by rw [cols_length]; omega) hwd (by omega)) hwd (by rw [cols_length]; exact h0) (by rw [cols_length]; omega)) (Ev.pos rfl ?_)))
 dsimp only
 rw [bss_length, par_length, show (((k : Nat) : Int) != (k : Int)) = false by simp]
 refine Ev.step (fun k => footlockerlaw23_StripeBack.j2.eq_2 _ _ _ _ _ _) (Ev.neg (by simp) (Ev.pos (by rw [bss_length, bss_length, cols_length, par_length]; omega) ?_))
 have e : bss (cols M m M.length) ++ bss (par (cols M m M.length) k (m + 8)) = bss (allc M m k) := by rw [allc, bss, bss, bss, List.map_append]
 have e2 : wrap64 ((m : Int) + 8) = ((m + 8 : Nat) : Int) := by rw [wrap_sm (by omega) (by omega)]; omega
 rw [e, e2]
 exact back_l1 M m k h0 hM h5 hm hk hw (m + 8) 0 (by omega)
end
theorem back_l0 (M : List (List G)) (m k : Nat) (h0 : 0 < M.length) (hM : M.length ≤ 8) (h5 : 5 ≤ m) (hm : m ≤ 40) (hk : k ≤ 8) (d : Nat) : ∀ i : Nat, i + d = M.length → (∀ t, t < i → (row M t).length ≤ m) →
 Ev (fun f => footlockerlaw23_StripeBack.l0 f (bss M) (m : Int) (k : Int) (bss (cols M m i)) (bss M) (M.length : Int) (i : Int)) true := by
 induction d with
 | zero =>
  intro i hi hw
  obtain rfl : i = M.length := by omega
  exact back_end M m k h0 hM h5 hm hk hw
 | succ d ih =>
  intro i hi hw
  refine Ev.step (fun k => footlockerlaw23_StripeBack.l0.eq_2 _ _ _ _ _ _ _ _) (Ev.pos (by omega) (Ev.pos (by omega) (Ev.pos (by rw [bss_length]; omega) ?_)))
  rw [rd_bss]
  by_cases c : (row M i).length ≤ m
  ·have hv := volume_ev (bs (row M i)) m (by rw [bs_length]; omega) (by omega) (by rw [bs_length]; exact c)
   have hl := colI_length (bs (row M i)) m (by rw [bs_length]; exact c)
   have e2 : wrap64 ((m : Int) + 8) = ((m + 8 : Nat) : Int) := by rw [wrap_sm (by omega) (by omega)]; omega
   refine Ev.bind (column_ev (bs (row M i)) m (by rw [bs_length]; omega) h5 (by omega) (by rw [bs_length]; exact c)) (Ev.pos rfl (Ev.bind hv (Ev.pos rfl (Ev.bind (same_true rfl (by rw [bs_length]; omega)) (Ev.pos rfl (Ev.pos (by rw [e2]; exact congrArg Int.ofNat hl) (Ev.pos (by rw [bss_length, cols_length]; omega) ?_)))))))
   dsimp only
   have e : bss (cols M m i) ++ [colI (bs (row M i)) m] = bss (cols M m (i + 1)) := by
    rw [← bs_colG _ _ (by omega), bss_snoc, cols, cols, tabR_succ]
   rw [e, wrap_succ (by omega)]
   refine ih (i + 1) (by omega) (fun t ht => ?_)
   by_cases ht2 : t < i
   ·exact hw t ht2
   ·obtain rfl : t = i := by omega
    exact c
  ·exact Ev.bind (column_long (bs (row M i)) m (by omega) (by omega) (by rw [bs_length]; omega)) (Ev.neg (by decide) (Ev.now _))
theorem StripeBack : footlockerlaw23_StripeBack.Pure := by
 rintro l0 m k ⟨hl0, h0⟩ _ _
 obtain ⟨M, rfl⟩ := rows_in l0 (fun y hy => (h0 y hy).2)
 apply Ev.rounds
 have out : Ev (fun f => footlockerlaw23_StripeBack.j0 f (bss M) m k true) true := Ev.step (fun k => footlockerlaw23_StripeBack.j0.eq_2 _ _ _ _ _) (Ev.pos rfl (Ev.now _))
 refine Ev.congr (fun k => footlockerlaw23_StripeBack.f.eq_1 _ _ _ _) (Ev.bind alive_ev (Ev.pos rfl ?_))
 rw [bss_length]
 by_cases c1 : (M.length : Int) = 0
 ·exact Ev.pos c1 out
 refine Ev.neg c1 ?_
 by_cases c2 : (M.length : Int) > 8
 ·exact Ev.pos c2 out
 refine Ev.neg c2 ?_
 by_cases c3 : m > 40
 ·exact Ev.pos c3 out
 refine Ev.neg c3 ?_
 by_cases c4 : k < 0
 ·exact Ev.pos c4 out
 refine Ev.neg c4 ?_
 by_cases c5 : k > 8
 ·rw [decide_eq_true c5]
  exact out
 rw [decide_eq_false c5]
 refine Ev.step (fun k => footlockerlaw23_StripeBack.j0.eq_2 _ _ _ _ _) (Ev.neg (by simp) ?_)
 rw [bss_length]
 by_cases c6 : m < 5
 ·refine Ev.step (fun k => footlockerlaw23_StripeBack.l0.eq_2 _ _ _ _ _ _ _ _) (Ev.pos (by omega) (Ev.pos (by omega) (Ev.pos (by rw [bss_length]; omega) (Ev.bind (column_no _ m c6) (Ev.neg (by decide) (Ev.now _))))))
 ·obtain ⟨m, rfl⟩ : ∃ n : Nat, m = (n : Int) := ⟨m.toNat, by omega⟩
  obtain ⟨k, rfl⟩ : ∃ n : Nat, k = (n : Int) := ⟨k.toNat, by omega⟩
  exact back_l0 M m k (by omega) (by omega) (by omega) (by omega) (by omega) M.length 0 (by omega) (fun t ht => absurd ht (Nat.not_lt_zero _))
end Go.Proofs.Ytcdmgppjhdpgkaa.Pure
namespace Go.Proofs.Ytcdmgppjhdpgkaa.Q
open Go Go.RowKit Go.ChangeShapes Go.WideShapes Go.Proofs.YtcdmgppjhdpgkaaW.PrintWords
set_option linter.unusedVariables false
set_option linter.unusedSimpArgs false
def Opens {H : Type} (enc : TypeId × Value → H) (P : Program) (W : World) (base : Nat) (t : TypeId) {α : Type} (d : Kd α) (wf : α → Prop) : Prop :=
 ∀ (spare : Nat → Bool) (held : Bool) (fuel : Nat) (cs : List Value) (x : DataW H × List MemPlace), DataW.trod enc P W base spare held fuel t cs = some x → ∃ v : α, d.K W v cs ∧ wf v
section
variable {H : Type} {enc : TypeId × Value → H} {P : Program} {W : World} {base : Nat}
theorem opens_int {t : TypeId} {k : IntKind} (ht : P.underlying t = some (.int k)) : Opens enc P W base t (Kd.int k) (fun n => (Lit.int k n).wf = true) := by
 intro spare held fuel cs x h
 obtain ⟨n, rfl, _, hw⟩ := DataW.trod_int ht h
 exact ⟨n, rfl, hw⟩
theorem mapM_get {β γ : Type} {f : β → Option γ} : ∀ {l : List β} {cs : List γ}, l.mapM f = some cs → cs.length = l.length ∧ ∀ (i : Nat) (b : β), l[i]? = some b → f b = cs[i]? := by
 intro l
 induction l with
 | nil =>
  intro cs h
  simp at h
  subst h
  exact ⟨rfl, fun i b hb => by simp at hb⟩
 | cons a l ih =>
  intro cs h
  rw [List.mapM_cons] at h
  cases hf : f a with
  | none => simp [hf] at h
  | some y =>
   cases hm : l.mapM f with
   | none => simp [hf, hm] at h
   | some ys =>
    simp [hf, hm] at h
    subst h
    obtain ⟨h1, h2⟩ := ih hm
    refine ⟨by simp [h1], fun i b hb => ?_⟩
    cases i with
    | zero =>
     simp at hb
     subst hb
     simpa using hf
    | succ i =>
     simp at hb
     simpa using h2 i b hb
theorem cells_of {a : Addr} {n : Nat} {cs : List Value} (h : W.cells? base a n = some cs) : cs.length = n ∧ ∀ (i : Nat) (u : Value), cs[i]? = some u → W.cell? (a.add i) = some u := by
 unfold World.cells? at h
 split at h
 ·obtain ⟨h1, h2⟩ := mapM_get h
  rw [List.length_range] at h1
  refine ⟨h1, fun i u hu => ?_⟩
  have hi : i < n := by
   have := (List.getElem?_eq_some_iff.1 hu).1
   omega
  rw [h2 i i (by rw [List.getElem?_range hi]), hu]
 ·cases h
theorem opens_slice {t e : TypeId} {α : Type} {d : Kd α} {wf : α → Prop} (ht : P.underlying t = some (.slice e)) (hc : P.cellsOf e = d.sz) (hm : maxLen ≤ 9223372036854775807) (ho : Opens enc P W base e d wf) [Inhabited α] :
 Opens enc P W base t (Kd.slice e d) (fun xs => xs.length ≤ maxLen ∧ ∀ x ∈ xs, wf x) := by
 intro spare held fuel cs x h
 rcases Deep.open_slice ht h with ⟨rfl, _⟩ | ⟨a, len, cap, m, n, D, Pl, rfl, hb, hl, hcm, hmm, rfl, hx⟩
 ·exact ⟨[], ⟨none, 0, rfl, Nat.le_refl _, rfl, Nat.zero_le _, fun h => absurd h (by simp)⟩, Nat.zero_le _, fun x hx => by simp at hx⟩
 ·have hlm : len ≤ m := by rw [hmm]; split <;> omega
  obtain ⟨F, hF⟩ := Deep.choose_lt (α := α) (n := len) (p := fun i v => ∃ cs', d.K W v cs' ∧ cs'.length = d.sz ∧ (∀ j u, cs'[j]? = some u → W.cell? (a.add (i * d.sz + j)) = some u) ∧ wf v) (fun i hi => by
   obtain ⟨cs', h1, h2⟩ := hx i (by omega)
   obtain ⟨v, hv, hw⟩ := ho spare held n cs' _ h2
   rw [hc] at h1
   obtain ⟨h3, h4⟩ := cells_of h1
   refine ⟨v, cs', hv, h3, fun j u hu => ?_, hw⟩
   have := h4 j u hu
   rwa [Deep.add_add] at this)
  refine ⟨(List.range len).map F, ⟨some a, cap, by simp, by simpa using hl, by simp, by simp; omega, fun _ => ⟨a, rfl, fun j p hj => ?_⟩⟩, by simp; omega, fun x hx => ?_⟩
  ·have hjl : j < len := by
    have := (List.getElem?_eq_some_iff.1 hj).1
    simpa using this
   rw [List.getElem?_map, List.getElem?_range hjl] at hj
   simp at hj
   subst hj
   obtain ⟨cs', h1, h2, h3, _⟩ := hF j hjl
   exact ⟨cs', h2, h1, h3⟩
  ·rw [List.mem_map] at hx
   obtain ⟨i, hi, rfl⟩ := hx
   obtain ⟨_, _, _, _, hw⟩ := hF i (List.mem_range.1 hi)
   exact hw
theorem slice_arg {e : TypeId} {α : Type} {d : Kd α} {xs : List α} {a : Option Addr} {len cap : Nat} (h : (Kd.slice e d).K W xs (Value.cells (.slice a len cap)).toList) : len = xs.length ∧ xs.length ≤ cap ∧ d.C W a xs.length xs := by
 obtain ⟨A, c, hcs, hl, hC⟩ := h
 simp [Value.cells] at hcs
 obtain ⟨rfl, rfl, rfl⟩ := hcs
 exact ⟨rfl, hl, hC⟩
end
end Go.Proofs.Ytcdmgppjhdpgkaa.Q
