/- The program's functions over rows of bytes, one by one, are those of the theory. Conditions: sizes that fit, as each theorem states them. -/
import Derived.Test.YtanknpdibjfmlaaR2
import Derived.Test.YtanknpdibjfmlaaB2
import Derived.Test.YtanknpdibjfmlaaPx0
import Derived.Test.YtanknpdibjfmlaaPx1
import Derived.Test.YtanknpdibjfmlaaPx2
import Derived.Test.YtanknpdibjfmlaaPx3
import Derived.Test.YtanknpdibjfmlaaPx4
import Derived.Test.YtanknpdibjfmlaaPx5
namespace Go.Proofs.Ytanknpdibjfmlaa.Al
open Go Go.RowKit Go.Proofs.YtanknpdibjfmlaaW.PrintWords Go.Proofs.YtanknpdibjfmlaaW.PrintMore Go.Proofs.Ytanknpdibjfmlaa.P
set_option linter.unusedVariables false
set_option linter.unusedSimpArgs false

def bss (M : List (List G)) : List (List Int) := M.map bs
theorem bss_length (M : List (List G)) : (bss M).length = M.length := List.length_map _
theorem rd_bss (M : List (List G)) (i : Nat) : rd_L1 (bss M) (i : Int) = bs (row M i) := by
  simp only [rd_L1, bss, Int.toNat_natCast, row, List.getD_eq_getElem?_getD, List.getElem?_map]
  cases M[i]? <;> rfl
theorem rd_bss0 (M : List (List G)) : rd_L1 (bss M) 0 = bs (row M 0) := rd_bss M 0
theorem bss_set (M : List (List G)) (n : Nat) (r : List G) : (bss M).set n (bs r) = bss (M.set n r) := List.map_set.symm
theorem bss_snoc (M : List (List G)) (r : List G) : bss M ++ [bs r] = bss (M ++ [r]) := by simp [bss]
theorem bss_drop (M : List (List G)) (n : Nat) : (bss M).drop n = bss (M.drop n) := List.map_drop.symm
theorem bss_take (M : List (List G)) (n : Nat) : (bss M).take n = bss (M.take n) := List.map_take.symm
theorem bss_inj {M N : List (List G)} : bss M = bss N ↔ M = N := by
  constructor
  · intro h
    exact List.map_inj_right (fun a b => bs_inj.1) |>.1 h
  · rintro rfl; rfl
theorem rows_in : ∀ l : List (List Int), (∀ x ∈ l, ∀ y ∈ x, (Lit.int .u8 y).wf = true) → ∃ M, l = bss M := by
  intro l
  induction l with
  | nil => intro _; exact ⟨[], rfl⟩
  | cons a l ih =>
    intro h
    obtain ⟨M, rfl⟩ := ih (fun x hx => h x (List.mem_cons_of_mem _ hx))
    obtain ⟨p, rfl⟩ := bytes_in (h a List.mem_cons_self)
    exact ⟨p :: M, rfl⟩
def wid (M : List (List G)) : Nat := (row M 0).length
/-- rows are a matrix -/
def Rt (M : List (List G)) : Prop := Wd M (wid M)
instance (M : List (List G)) : Decidable (Rt M) := Nat.decidableBallLT M.length (fun i _ => (row M i).length = wid M)
theorem row_snoc_take {M : List (List G)} {n : Nat} (h : n < M.length) : M.take n ++ [row M n] = M.take (n + 1) := by
  rw [List.take_succ_eq_append_getElem h, row_lt h]
/-- sizes that fit -/
def Fit (M : List (List G)) : Prop := M.length < 1000000 ∧ ∀ i, i < M.length → (row M i).length < 1000000
theorem Fit.of {M : List (List G)} {w : Nat} (h1 : M.length < 1000000) (hw : Wd M w) (h2 : w < 1000000) : Fit M := ⟨h1, fun i hi => by rw [hw i hi]; exact h2⟩
theorem Fit.wid {M : List (List G)} (h : Fit M) : wid M < 1000000 := by
  unfold Al.wid
  by_cases e : 0 < M.length
  · exact h.2 0 e
  · rw [row_ge (by omega)]; decide

/-! Right -/
theorem fidx_idx {α : Type} (p : α → Bool) : ∀ (l : List α) (i : Nat), fidx p l i = if l.findIdx p < l.length then ((i + l.findIdx p : Nat) : Int) else -1 := by
  intro l
  induction l with
  | nil => intro i; rfl
  | cons a l ih =>
    intro i
    rw [fidx, List.findIdx_cons]
    cases h : p a with
    | true => simp
    | false =>
      rw [if_neg (by simp), ih]
      simp only [Bool.cond_false, List.length_cons]
      by_cases e : l.findIdx p < l.length
      · rw [if_pos e, if_pos (by omega)]; omega
      · rw [if_neg e, if_neg (by omega)]
theorem findIdx_bss (p : List Int → Bool) (q : List G → Bool) (h : ∀ r, p (bs r) = q r) (M : List (List G)) : (bss M).findIdx p = M.findIdx q := by
  rw [bss, List.findIdx_map]
  congr 1
  funext r
  exact h r
theorem right_some (M : List (List G)) : linear_Right.f (bss M) = some (decide (Rt M)) := by
  unfold linear_Right.f
  congr 1
  rw [fidx_idx, findIdx_bss _ (fun r => decide (r.length ≠ wid M)) (fun r => by
    rw [rd_bss0, bs_length, bs_length]
    show (!((r.length : Int) == ((row M 0).length : Int))) = _
    unfold wid
    by_cases e : r.length = (row M 0).length
    · rw [decide_eq_false (by simp [e])]
      simp [e]
    · rw [decide_eq_true e]
      simp
      omega), bss_length]
  by_cases h : M.findIdx (fun r => decide (r.length ≠ wid M)) < M.length
  · rw [if_pos h, decide_eq_true (by omega)]
    have h2 := List.findIdx_getElem (w := h)
    rw [← row_lt h] at h2
    rw [decide_eq_false (fun hr => (of_decide_eq_true h2) (hr _ h))]
    rfl
  · rw [if_neg h, decide_eq_false (by omega)]
    have hr : Rt M := by
      intro i hi
      have h3 := List.not_of_lt_findIdx (p := fun r => decide (r.length ≠ wid M)) (xs := M) (i := i) (by omega)
      rw [← row_lt hi] at h3
      simpa using h3
    rw [decide_eq_true hr]
    rfl

/-! clone, width -/
theorem clone_l0 (M : List (List G)) (hM : Fit M) (d : Nat) : ∀ n : Nat, n + d = M.length → Ev (fun k => linear_clone.l0 k (bss (M.take n)) (bss M) (M.length : Int) (n : Int)) (bss M) := by
  have h1 := hM.1
  induction d with
  | zero =>
    intro n hn
    refine Ev.step (fun k => linear_clone.l0.eq_2 _ _ _ _ _) (Ev.neg (by omega) ?_)
    rw [List.take_of_length_le (by omega)]
    exact Ev.now _
  | succ d ih =>
    intro n hn
    refine Ev.step (fun k => linear_clone.l0.eq_2 _ _ _ _ _) (Ev.pos (by omega) (Ev.pos (by omega) (Ev.pos (by rw [bss_length]; omega) ?_)))
    have h2 := hM.2 n (by omega)
    rw [rd_bss, clone_some _ (by rw [bs_length]; omega)]
    refine Ev.somef (Ev.pos (by rw [bss_length, List.length_take]; omega) ?_)
    rw [bss_snoc, row_snoc_take (by omega), wrap_succ (by omega)]
    exact ih (n + 1) (by omega)
theorem clone_ev (M : List (List G)) (hM : Fit M) : Ev (fun k => linear_clone.f k (bss M)) (bss M) := by
  refine Ev.congr (fun k => linear_clone.f.eq_1 _ _) ?_
  rw [bss_length]
  exact clone_l0 M hM M.length 0 (by omega)
theorem width_some (M : List (List G)) : linear_width.f (bss M) = some (wid M : Int) := by
  unfold linear_width.f
  rw [bss_length]
  by_cases h : (M.length : Int) = 0
  · rw [if_pos h, wid, row_ge (by omega)]
    rfl
  · rw [if_neg h, if_pos (by omega), rd_bss0, bs_length]
    rfl

/-! Scale, take -/
theorem scale_l0 (a : G) (p : List G) (hp : p.length < 1000000) (d : Nat) : ∀ (n : Nat) (o : List G), n + d = p.length → o.length = p.length → (∀ j, j < n → co o j = co p j * a) →
    Ev (fun k => gf_Scale.l0 k a.i (bs o) (bs p) (p.length : Int) (n : Int)) (bs (scale a p)) := by
  induction d with
  | zero =>
    intro n o hn ho h
    refine Ev.step (fun k => gf_Scale.l0.eq_2 _ _ _ _ _ _) (Ev.neg (by omega) ?_)
    have : o = scale a p := ext_co (by rw [scale_length, ho]) (fun j hj => by rw [h j (by omega), co_scale, mul_comm])
    rw [this]
    exact Ev.now _
  | succ d ih =>
    intro n o hn ho h
    refine Ev.step (fun k => gf_Scale.l0.eq_2 _ _ _ _ _ _) (Ev.pos (by omega) (Ev.pos (by omega) (Ev.pos (by rw [bs_length]; omega) ?_)))
    rw [rd_bs]
    refine Ev.bind (mul_ev _ _) (Ev.pos (by rw [bs_length]; omega) ?_)
    rw [Int.toNat_natCast, bs_set, wrap_succ (by omega)]
    refine ih (n + 1) _ (by omega) (by rw [List.length_set]; exact ho) (fun j hj => ?_)
    rw [co_set _ _ _ _ (by omega)]
    by_cases e : j = n
    · rw [if_pos e, e]
    · rw [if_neg e, h j (by omega)]
theorem scale_ev (a : G) (p : List G) (hp : p.length < 1000000) : Ev (fun k => gf_Scale.f k (bs p) a.i) (bs (scale a p)) := by
  refine Ev.congr (fun k => gf_Scale.f.eq_1 _ _ _) ?_
  rw [bs_length, Int.toNat_natCast, bs_replicate]
  exact Ev.pos (by omega) (Ev.pos (by omega) (scale_l0 a p hp p.length 0 _ (by omega) List.length_replicate (fun j hj => by omega)))
theorem take_l0 (s r : List G) (by_ : G) (hs : s.length = r.length) (hr : r.length < 1000000) (d : Nat) : ∀ (n : Nat) (o : List G), n + d = s.length → o.length = r.length → (∀ j, co o j = if j < n then co r j + co s j * by_ else co r j) →
    Ev (fun k => linear_take.l0 k (bs o) by_.i (bs s) (s.length : Int) (n : Int)) (bs (zadd r (scale by_ s))) := by
  induction d with
  | zero =>
    intro n o hn ho h
    refine Ev.step (fun k => linear_take.l0.eq_2 _ _ _ _ _ _) (Ev.neg (by omega) ?_)
    have : o = zadd r (scale by_ s) := ext_co (by rw [zadd_length, scale_length, ho, hs, Nat.max_self]) (fun j hj => by rw [h j, if_pos (by omega), co_zadd, co_scale, mul_comm])
    rw [this]
    exact Ev.now _
  | succ d ih =>
    intro n o hn ho h
    refine Ev.step (fun k => linear_take.l0.eq_2 _ _ _ _ _ _) (Ev.pos (by omega) (Ev.pos (by omega) (Ev.pos (by rw [bs_length]; omega) (Ev.pos (by rw [bs_length]; omega) ?_))))
    rw [rd_bs, rd_bs]
    refine Ev.bind (mul_ev _ _) ?_
    rw [Int.toNat_natCast, xor_i, bs_set, wrap_succ (by omega)]
    refine ih (n + 1) _ (by omega) (by rw [List.length_set]; exact ho) (fun j => ?_)
    rw [co_set _ _ _ _ (by omega)]
    by_cases e : j = n
    · rw [if_pos e, e, if_pos (by omega), h n, if_neg (by omega)]
    · rw [if_neg e, h j]
      by_cases h2 : j < n
      · rw [if_pos h2, if_pos (by omega)]
      · rw [if_neg h2, if_neg (by omega)]
theorem take_ev (s r : List G) (by_ : G) (hs : s.length = r.length) (hr : r.length < 1000000) : Ev (fun k => linear_take.f k (bs s) (bs r) by_.i) (bs (zadd r (scale by_ s))) := by
  refine Ev.congr (fun k => linear_take.f.eq_1 _ _ _ _) ?_
  rw [bs_length]
  exact take_l0 s r by_ hs hr s.length 0 r (by omega) rfl (fun j => by rw [if_neg (Nat.not_lt_zero _)])

/-! pivot -/
theorem row_sw {M : List (List G)} {a u k : Nat} (ha : a < M.length) (hu : u < M.length) : row ((M.set a (row M u)).set u (row M a)) k = swp M a u k := by
  rw [row_set _ _ _ _ (by rw [List.length_set]; exact hu), row_set _ _ _ _ ha]
  unfold swp
  by_cases h1 : k = a
  · rw [if_pos h1, if_pos h1]
    by_cases h2 : k = u
    · rw [if_pos h2]
      rw [← h1, h2]
    · rw [if_neg h2]
  · rw [if_neg h1, if_neg h1]
theorem sw_bss (M : List (List G)) (a u : Nat) : linear_pivot.sw (bss M) a u = bss ((M.set a (row M u)).set u (row M a)) := by
  have e : ∀ i, (bss M).getD i [] = bs (row M i) := fun i => by
    have := rd_bss M i
    rwa [rd_L1, Int.toNat_natCast] at this
  unfold linear_pivot.sw
  rw [e, e, bss_set, bss_set]
theorem piv_length {M : List (List G)} {w c u : Nat} (hw : Wd M w) (hu : u < M.length) : (piv M c u).length = w := by rw [piv, scale_length, hw u hu]
theorem pivot_l0 (M : List (List G)) (w a c u : Nat) (hM : M.length < 1000000) (hw : Wd M w) (hw2 : w < 1000000) (ha : a < M.length) (hu : u < M.length) (hc : c < w) (d : Nat) : ∀ (n : Nat) (N : List (List G)), n + d = M.length → N.length = M.length →
    (∀ k, k < M.length → row N k = if k = a then piv M c u else if k < n then row (elim M a c u) k else swp M a u k) →
    Ev (fun k => linear_pivot.l0 k (bss N) (a : Int) (c : Int) (M.length : Int) (n : Int)) (bss (elim M a c u)) := by
  induction d with
  | zero =>
    intro n N hn hN h
    refine Ev.step (fun k => linear_pivot.l0.eq_2 _ _ _ _ _ _) (Ev.neg (by omega) ?_)
    have : N = elim M a c u := by
      apply ext_row
      · rw [hN, elim_length]
      · intro i hi
        rw [h i (by omega)]
        by_cases e : i = a
        · rw [if_pos e, e, row_elim ha, if_pos rfl]
        · rw [if_neg e, if_pos (by omega)]
    rw [this]
    exact Ev.now _
  | succ d ih =>
    intro n N hn hN h
    refine Ev.step (fun k => linear_pivot.l0.eq_2 _ _ _ _ _ _) (Ev.pos (by omega) (Ev.pos (by omega) (Ev.pos (by rw [bss_length]; omega) (Ev.pos (by omega) (Ev.pos (by rw [bss_length]; omega) ?_)))))
    rw [rd_bss, rd_bss, wrap_succ (by omega)]
    by_cases e : n = a
    · refine Ev.pos (by omega) (ih (n + 1) N (by omega) hN (fun k hk => ?_))
      rw [h k hk]
      by_cases e2 : k = a
      · rw [if_pos e2, if_pos e2]
      · rw [if_neg e2, if_neg e2]
        by_cases e3 : k < n
        · rw [if_pos e3, if_pos (by omega)]
        · rw [if_neg e3, if_neg (by omega)]
    · have hr : row N n = swp M a u n := by rw [h n (by omega), if_neg e, if_neg (Nat.lt_irrefl _)]
      have hs : row N a = piv M c u := by rw [h a ha, if_pos rfl]
      have hrl := swp_width hw ha hu (k := n) (by omega)
      refine Ev.neg (by omega) (Ev.pos (by omega) ?_)
      rw [hr, hs]
      refine Ev.pos (by rw [bs_length]; omega) ?_
      rw [rd_bs]
      refine Ev.bind (take_ev _ _ _ (by rw [piv_length hw hu, hrl]) (by omega)) ?_
      rw [Int.toNat_natCast, bss_set]
      refine ih (n + 1) _ (by omega) (by rw [List.length_set]; exact hN) (fun k hk => ?_)
      rw [row_set _ _ _ _ (by omega)]
      by_cases e2 : k = n
      · rw [if_pos e2, e2, if_neg e, if_pos (by omega), row_elim (by omega), if_neg e]
      · rw [if_neg e2, h k hk]
        by_cases e3 : k = a
        · rw [if_pos e3, if_pos e3]
        · rw [if_neg e3, if_neg e3]
          by_cases e4 : k < n
          · rw [if_pos e4, if_pos (by omega)]
          · rw [if_neg e4, if_neg (by omega)]
theorem fidx_fnd (M : List (List G)) (a c : Nat) : fidx (fun x => !(rd x (c : Int) == 0)) ((bss M).drop a) 0 = if fnd M a c < M.length then ((fnd M a c - a : Nat) : Int) else -1 := by
  rw [bss_drop, fidx_idx, findIdx_bss _ (fun r => decide (co r c ≠ 0)) (fun r => by
    rw [rd_bs]
    by_cases e : co r c = 0
    · rw [decide_eq_false (by simp [e]), e]
      rfl
    · rw [decide_eq_true e]
      have : (co r c).i ≠ 0 := fun h => e (i_eq_zero.1 h)
      simp [this]), bss_length, List.length_drop]
  have hle := List.findIdx_le_length (p := fun r => decide (co r c ≠ 0)) (xs := M.drop a)
  rw [List.length_drop] at hle
  unfold fnd
  generalize List.findIdx (fun r => decide (co r c ≠ 0)) (M.drop a) = f at hle
  by_cases h : f < M.length - a
  · rw [if_pos h, if_pos (by omega)]; omega
  · rw [if_neg h, if_neg (by omega)]
theorem pivot_pre {M : List (List G)} {w c : Nat} (hw : Wd M w) (hc : c < w) : ((bss M).all fun x => decide ((c : Int) < (x.length : Int))) = true := by
  rw [List.all_eq_true]
  intro x hx
  rw [bss, List.mem_map] at hx
  obtain ⟨r, hr, rfl⟩ := hx
  obtain ⟨i, hi, rfl⟩ := List.mem_iff_getElem.1 hr
  have := hw i hi
  rw [row_lt hi] at this
  rw [bs_length, this]
  exact decide_eq_true (by omega)
theorem pivot_no {M : List (List G)} {w a c : Nat} (hw : Wd M w) (ha : a < M.length) (hc : c < w) (hf : ¬ fnd M a c < M.length) : Ev (fun k => linear_pivot.f k (bss M) (a : Int) (c : Int)) (bss M, false) := by
  refine Ev.congr (fun k => linear_pivot.f.eq_1 _ _ _ _) (Ev.pos (by omega) (Ev.pos (by rw [bss_length]; omega) (Ev.pos (by omega) (Ev.pos (pivot_pre hw hc) ?_))))
  rw [Int.toNat_natCast, fidx_fnd, if_neg hf]
  exact Ev.pos (by omega) (Ev.now _)
theorem pivot_yes {M : List (List G)} {w a c : Nat} (hM : M.length < 1000000) (hw : Wd M w) (hw2 : w < 1000000) (ha : a < M.length) (hc : c < w) (hf : fnd M a c < M.length) : Ev (fun k => linear_pivot.f k (bss M) (a : Int) (c : Int)) (bss (elim M a c (fnd M a c)), true) := by
  have hle := fnd_le M a c
  refine Ev.congr (fun k => linear_pivot.f.eq_1 _ _ _ _) (Ev.pos (by omega) (Ev.pos (by rw [bss_length]; omega) (Ev.pos (by omega) (Ev.pos (pivot_pre hw hc) ?_))))
  rw [Int.toNat_natCast, fidx_fnd, if_pos hf]
  refine Ev.neg (by omega) ?_
  have e : ((a : Int) + ((fnd M a c - a : Nat) : Int)).toNat = fnd M a c := by omega
  rw [e, sw_bss, rd_bss, row_sw ha hf]
  have e2 : swp M a (fnd M a c) a = row M (fnd M a c) := by unfold swp; rw [if_pos rfl]
  rw [e2, rd_bs]
  refine Ev.bind (inv_ev _) (Ev.bind (scale_ev _ _ (by rw [hw _ hf]; exact hw2)) ?_)
  rw [bss_set, bss_length]
  refine Ev.bind (pivot_l0 M w a c (fnd M a c) hM hw hw2 ha hf hc M.length 0 _ (by omega) (by simp) (fun k hk => ?_)) (Ev.now _)
  rw [row_set _ _ _ _ (by simp; exact ha), row_sw ha hf]
  by_cases h : k = a
  · rw [if_pos h, if_pos h]; rfl
  · rw [if_neg h, if_neg h, if_neg (Nat.not_lt_zero _)]

/-! Reduce -/
def psI (ps : List Nat) : List Int := ps.map (fun x : Nat => (x : Int))
theorem psI_length (ps : List Nat) : (psI ps).length = ps.length := List.length_map _
theorem psI_snoc (ps : List Nat) (c : Nat) : psI ps ++ [(c : Int)] = psI (ps ++ [c]) := by simp [psI]
theorem rd_psI (ps : List Nat) (t : Nat) : rd (psI ps) (t : Int) = ((ps.getD t 0 : Nat) : Int) := by
  simp only [rd, psI, Int.toNat_natCast, List.getD_eq_getElem?_getD, List.getElem?_map]
  cases ps[t]? <;> rfl
theorem fnd_end {M : List (List G)} {a c : Nat} (h : M.length ≤ a) : ¬ fnd M a c < M.length := by
  have := fnd_le M a c
  omega
theorem reduce_l0 (w b : Nat) (hw2 : w < 1000000) (hb : b ≤ w) (d : Nat) : ∀ (M : List (List G)) (ps : List Nat) (c : Nat), M.length < 1000000 → Wd M w → ps.length ≤ M.length → c + d = b →
    Ev (fun k => linear_Reduce.l0 k (M.length : Int) (bss M) (psI ps) (b : Int) (c : Int)) (bss (red d M ps c).1, psI (red d M ps c).2) := by
  induction d with
  | zero =>
    intro M ps c hM hw hp hc
    exact Ev.step (fun k => linear_Reduce.l0.eq_2 _ _ _ _ _ _) (Ev.neg (by omega) (Ev.now _))
  | succ d ih =>
    intro M ps c hM hw hp hc
    refine Ev.step (fun k => linear_Reduce.l0.eq_2 _ _ _ _ _ _) (Ev.pos (by omega) ?_)
    rw [psI_length, wrap_succ (by omega)]
    unfold red
    by_cases hlt : ps.length < M.length
    · refine Ev.pos (by omega) ?_
      by_cases hf : fnd M ps.length c < M.length
      · rw [if_pos hf]
        refine Ev.bind (pivot_yes hM hw hw2 hlt (by omega) hf) (Ev.pos rfl (Ev.pos (by omega) ?_))
        rw [psI_snoc]
        have := ih (elim M ps.length c (fnd M ps.length c)) (ps ++ [c]) (c + 1) (by rw [elim_length]; exact hM) (elim_width hw hlt hf) (by rw [elim_length]; simp; omega) (by omega)
        rw [elim_length] at this
        exact this
      · rw [if_neg hf]
        exact Ev.bind (pivot_no hw hlt (by omega) hf) (Ev.neg (by simp) (ih M ps (c + 1) hM hw hp (by omega)))
    · rw [if_neg (fnd_end (by omega))]
      exact Ev.neg (by omega) (ih M ps (c + 1) hM hw hp (by omega))
/-- how many columns are reduced by -/
def cols (a : Int) (w : Nat) : Nat := min a.toNat w
theorem cols_eq (a : Int) (w : Nat) : mn (mx a 0) (w : Int) = (cols a w : Int) := by
  unfold mn mx cols
  split <;> split <;> omega
theorem reduce_ev (M : List (List G)) (a : Int) (hM : Fit M) (hr : Rt M) : Ev (fun k => linear_Reduce.f k (bss M) a) (bss (reduce M (cols a (wid M))).1, psI (reduce M (cols a (wid M))).2) := by
  refine Ev.congr (fun k => linear_Reduce.f.eq_1 _ _ _) ?_
  rw [right_some, decide_eq_true hr]
  refine Ev.somef (Ev.pos rfl (Ev.bind (clone_ev M hM) ?_))
  rw [width_some]
  refine Ev.somef ?_
  rw [cols_eq, bss_length]
  exact reduce_l0 (wid M) (cols a (wid M)) hM.wid (Nat.min_le_right _ _) (cols a (wid M)) M [] 0 hM.1 hr (Nat.zero_le _) (Nat.zero_add _)
theorem reduce_no (M : List (List G)) (a : Int) (hr : ¬ Rt M) : Ev (fun k => linear_Reduce.f k (bss M) a) ([], []) := by
  refine Ev.congr (fun k => linear_Reduce.f.eq_1 _ _ _) ?_
  rw [right_some, decide_eq_false hr]
  exact Ev.somef (Ev.neg (by simp) (Ev.now _))
theorem cols_nat (n w : Nat) : cols (n : Int) w = min n w := by unfold cols; rw [Int.toNat_natCast]
theorem rank_ev (M : List (List G)) (hM : Fit M) (hr : Rt M) : Ev (fun k => linear_Rank.f k (bss M)) ((reduce M (wid M)).2.length : Int) := by
  refine Ev.congr (fun k => linear_Rank.f.eq_1 _ _) ?_
  rw [width_some]
  refine Ev.somef (Ev.bind (reduce_ev M _ hM hr) ?_)
  rw [cols_nat, Nat.min_self]
  dsimp only
  rw [psI_length]
  exact Ev.now _
theorem rank_no (M : List (List G)) (hr : ¬ Rt M) : Ev (fun k => linear_Rank.f k (bss M)) 0 := by
  refine Ev.congr (fun k => linear_Rank.f.eq_1 _ _) ?_
  rw [width_some]
  exact Ev.somef (Ev.bind (reduce_no M _ hr) (Ev.now _))

/-! Dot, Times -/
theorem mn_nat (a b : Nat) : mn (a : Int) (b : Int) = ((min a b : Nat) : Int) := by
  unfold mn
  split <;> omega
theorem dot_l0 (p q : List G) (hp : p.length < 1000000) (d : Nat) : ∀ n : Nat, n + d = min p.length q.length → Ev (fun k => gf_Dot.l0 k (bs p) (bs q) (dt n (co p) (co q)).i ((min p.length q.length : Nat) : Int) (n : Int)) (dt (min p.length q.length) (co p) (co q)).i := by
  induction d with
  | zero =>
    intro n hn
    refine Ev.step (fun k => gf_Dot.l0.eq_2 _ _ _ _ _ _) (Ev.neg (by omega) ?_)
    rw [show n = min p.length q.length by omega]
    exact Ev.now _
  | succ d ih =>
    intro n hn
    refine Ev.step (fun k => gf_Dot.l0.eq_2 _ _ _ _ _ _) (Ev.pos (by omega) (Ev.pos (by omega) (Ev.pos (by rw [bs_length]; omega) (Ev.pos (by rw [bs_length]; omega) ?_))))
    rw [rd_bs, rd_bs]
    refine Ev.bind (mul_ev _ _) ?_
    rw [xor_i, wrap_succ (by omega)]
    exact ih (n + 1) (by omega)
theorem dot_ev (p q : List G) (hp : p.length < 1000000) : Ev (fun k => gf_Dot.f k (bs p) (bs q)) (dt (min p.length q.length) (co p) (co q)).i := by
  refine Ev.congr (fun k => gf_Dot.f.eq_1 _ _ _) ?_
  rw [bs_length, bs_length, mn_nat]
  exact dot_l0 p q hp (min p.length q.length) 0 (by omega)
theorem times_l0 (M : List (List G)) (x : List G) (hM : Fit M) (d : Nat) : ∀ n : Nat, n + d = M.length → Ev (fun k => linear_Times.l0 k (bs x) (bs (tab n (fun i => dt (min (row M i).length x.length) (co (row M i)) (co x)))) (bss M) (M.length : Int) (n : Int)) (bs (tms M x)) := by
  have h1 := hM.1
  induction d with
  | zero =>
    intro n hn
    refine Ev.step (fun k => linear_Times.l0.eq_2 _ _ _ _ _ _) (Ev.neg (by omega) ?_)
    rw [show n = M.length by omega]
    exact Ev.now _
  | succ d ih =>
    intro n hn
    refine Ev.step (fun k => linear_Times.l0.eq_2 _ _ _ _ _ _) (Ev.pos (by omega) (Ev.pos (by omega) (Ev.pos (by rw [bss_length]; omega) ?_)))
    rw [rd_bss]
    refine Ev.bind (dot_ev _ _ (hM.2 n (by omega))) (Ev.pos (by rw [bs_length, tab_length]; omega) ?_)
    have e : bs (tab n (fun i => dt (min (row M i).length x.length) (co (row M i)) (co x))) ++ [(dt (min (row M n).length x.length) (co (row M n)) (co x)).i] = bs (tab (n + 1) (fun i => dt (min (row M i).length x.length) (co (row M i)) (co x))) := by
      rw [tab_succ, bs_append]; rfl
    rw [e, wrap_succ (by omega)]
    exact ih (n + 1) (by omega)
theorem times_ev (M : List (List G)) (x : List G) (hM : Fit M) : Ev (fun k => linear_Times.f k (bss M) (bs x)) (bs (tms M x)) := by
  refine Ev.congr (fun k => linear_Times.f.eq_1 _ _ _) ?_
  rw [bss_length]
  exact times_l0 M x hM M.length 0 (by omega)

/-! Solve -/
theorem beside_l0 (M : List (List G)) (b : List G) (hM : Fit M) (hb : b.length = M.length) (d : Nat) : ∀ (n : Nat) (N : List (List G)), n + d = M.length → N.length = M.length → (∀ k, k < M.length → row N k = if k < n then row M k ++ [co b k] else row M k) →
    Ev (fun k => linear_beside.l0 k (bss N) (bs b) (b.length : Int) (n : Int)) (bss (aug M b)) := by
  have h1 := hM.1
  induction d with
  | zero =>
    intro n N hn hN h
    refine Ev.step (fun k => linear_beside.l0.eq_2 _ _ _ _ _) (Ev.neg (by omega) ?_)
    have : N = aug M b := ext_row (by rw [hN, aug_length]) (fun i hi => by rw [h i (by omega), if_pos (by omega), row_aug (by omega)])
    rw [this]
    exact Ev.now _
  | succ d ih =>
    intro n N hn hN h
    have hr : row N n = row M n := by rw [h n (by omega), if_neg (Nat.lt_irrefl _)]
    have h2 := hM.2 n (by omega)
    refine Ev.step (fun k => linear_beside.l0.eq_2 _ _ _ _ _) (Ev.pos (by omega) (Ev.pos (by omega) (Ev.pos (by rw [bs_length]; omega) (Ev.pos (by rw [bss_length]; omega) ?_))))
    rw [rd_bss, hr, rd_bs]
    refine Ev.pos (by rw [bs_length]; omega) ?_
    have e : bs (row M n) ++ [(co b n).i] = bs (row M n ++ [co b n]) := by rw [bs_append]; rfl
    rw [e, Int.toNat_natCast, bss_set, wrap_succ (by omega)]
    refine ih (n + 1) _ (by omega) (by rw [List.length_set]; exact hN) (fun k hk => ?_)
    rw [row_set _ _ _ _ (by omega)]
    by_cases e2 : k = n
    · rw [if_pos e2, if_pos (by omega), e2]
    · rw [if_neg e2, h k hk]
      by_cases e3 : k < n
      · rw [if_pos e3, if_pos (by omega)]
      · rw [if_neg e3, if_neg (by omega)]
theorem beside_ev (M : List (List G)) (b : List G) (hM : Fit M) (hb : b.length = M.length) : Ev (fun k => linear_beside.f k (bss M) (bs b)) (bss (aug M b)) := by
  refine Ev.congr (fun k => linear_beside.f.eq_1 _ _ _) (Ev.bind (clone_ev M hM) ?_)
  rw [bs_length]
  exact beside_l0 M b hM hb M.length 0 M (by omega) rfl (fun k hk => by rw [if_neg (Nat.not_lt_zero _)])
theorem solve_l0 (R : List (List G)) (ps : List Nat) (n : Nat) (hR : R.length < 1000000) (hw : Wd R (n + 1)) (hf : RF R ps n) (d : Nat) : ∀ i : Nat, i + d = R.length → (∀ j, ps.length ≤ j → j < i → co (row R j) n = 0) →
    (okS R ps n → Ev (fun k => linear_Solve.l0 k (n : Int) (psI ps) (bs (outp R ps n (min i ps.length))) (bss R) (R.length : Int) (i : Int)) (bs (outp R ps n ps.length), true)) ∧
    (¬ okS R ps n → Ev (fun k => linear_Solve.l0 k (n : Int) (psI ps) (bs (outp R ps n (min i ps.length))) (bss R) (R.length : Int) (i : Int)) ([], false)) := by
  have hlen := hf.len
  induction d with
  | zero =>
    intro i hi h
    refine ⟨fun _ => Ev.step (fun k => linear_Solve.l0.eq_2 _ _ _ _ _ _ _) (Ev.neg (by omega) ?_), fun hn => absurd (fun j h1 h2 => h j h1 (by omega)) hn⟩
    rw [show min i ps.length = ps.length by omega]
    exact Ev.now _
  | succ d ih =>
    intro i hi h
    have hrow := hw i (by omega)
    by_cases hp : i < ps.length
    · have hx := hf.lt i hp
      have hstep : ∀ r, Ev (fun k => linear_Solve.l0 k (n : Int) (psI ps) (bs (outp R ps n (min (i + 1) ps.length))) (bss R) (R.length : Int) ((i + 1 : Nat) : Int)) r → Ev (fun k => linear_Solve.l0 k (n : Int) (psI ps) (bs (outp R ps n (min i ps.length))) (bss R) (R.length : Int) (i : Int)) r := by
        intro r hr
        refine Ev.step (fun k => linear_Solve.l0.eq_2 _ _ _ _ _ _ _) (Ev.pos (by omega) (Ev.pos (by omega) (Ev.pos (by rw [bss_length]; omega) (Ev.pos (by rw [psI_length]; omega) (Ev.pos (by omega) ?_)))))
        rw [rd_bss, rd_psI, rd_bs]
        refine Ev.pos (by rw [bs_length]; omega) (Ev.pos (by omega) (Ev.pos (by rw [bs_length, outp_length]; omega) ?_))
        rw [Int.toNat_natCast, bs_set, wrap_succ (by omega), show min i ps.length = i by omega]
        rw [show min (i + 1) ps.length = i + 1 by omega] at hr
        exact hr
      have hn := ih (i + 1) (by omega) (fun j h1 h2 => h j h1 (by omega))
      exact ⟨fun ho => hstep _ (hn.1 ho), fun ho => hstep _ (hn.2 ho)⟩
    · by_cases hz : co (row R i) n = 0
      · have hstep : ∀ r, Ev (fun k => linear_Solve.l0 k (n : Int) (psI ps) (bs (outp R ps n (min (i + 1) ps.length))) (bss R) (R.length : Int) ((i + 1 : Nat) : Int)) r → Ev (fun k => linear_Solve.l0 k (n : Int) (psI ps) (bs (outp R ps n (min i ps.length))) (bss R) (R.length : Int) (i : Int)) r := by
          intro r hr
          refine Ev.step (fun k => linear_Solve.l0.eq_2 _ _ _ _ _ _ _) (Ev.pos (by omega) (Ev.pos (by omega) (Ev.pos (by rw [bss_length]; omega) (Ev.neg (by rw [psI_length]; omega) (Ev.pos (by omega) ?_)))))
          rw [rd_bss, rd_bs]
          refine Ev.pos (by rw [bs_length]; omega) (Ev.pos (by rw [hz]; rfl) ?_)
          rw [wrap_succ (by omega), show min i ps.length = ps.length by omega]
          rw [show min (i + 1) ps.length = ps.length by omega] at hr
          exact hr
        have hn := ih (i + 1) (by omega) (fun j h1 h2 => by
          by_cases e : j = i
          · rw [e]; exact hz
          · exact h j h1 (by omega))
        exact ⟨fun ho => hstep _ (hn.1 ho), fun ho => hstep _ (hn.2 ho)⟩
      · refine ⟨fun ho => absurd (ho i (by omega) (by omega)) hz, fun _ => ?_⟩
        refine Ev.step (fun k => linear_Solve.l0.eq_2 _ _ _ _ _ _ _) (Ev.pos (by omega) (Ev.pos (by omega) (Ev.pos (by rw [bss_length]; omega) (Ev.neg (by rw [psI_length]; omega) (Ev.pos (by omega) ?_)))))
        rw [rd_bss, rd_bs]
        exact Ev.pos (by rw [bs_length]; omega) (Ev.neg (by rw [i_eq_zero]; exact hz) (Ev.now _))
theorem Rt_aug {M : List (List G)} {b : List G} (hr : Rt M) : Rt (aug M b) ∧ min (wid M) (wid (aug M b)) = wid M := by
  have hw := aug_width (b := b) hr
  by_cases h : 0 < M.length
  · have h0 : wid (aug M b) = wid M + 1 := hw 0 (by rw [aug_length]; exact h)
    refine ⟨?_, by omega⟩
    unfold Rt
    rw [h0]
    exact hw
  · refine ⟨fun i hi => ?_, ?_⟩
    · rw [aug_length] at hi
      omega
    · have : wid M = 0 := by rw [wid, row_ge (by omega)]; rfl
      omega
theorem aug_fit {M : List (List G)} {b : List G} (hM : Fit M) (hr : Rt M) (hw : wid M < 999999) : Fit (aug M b) := Fit.of (by rw [aug_length]; exact hM.1) (aug_width hr) (by omega)
theorem solve_arg (M : List (List G)) (b : List G) (h : ¬ (Rt M ∧ M.length = b.length)) : Ev (fun k => linear_Solve.f k (bss M) (bs b)) ([], false) := by
  refine Ev.congr (fun k => linear_Solve.f.eq_1 _ _ _) ?_
  have hj : Ev (fun k => linear_Solve.j0 k (bss M) (bs b) true) ([], false) := Ev.step (fun k => linear_Solve.j0.eq_2 _ _ _ _) (Ev.pos rfl (Ev.now _))
  rw [right_some, bss_length, bs_length]
  refine Ev.somef ?_
  by_cases hr : Rt M
  · refine Ev.pos (decide_eq_true hr) ?_
    rw [show ((M.length : Int) != (b.length : Int)) = true by
      have : M.length ≠ b.length := fun e => h ⟨hr, e⟩
      simp
      omega]
    exact hj
  · exact Ev.neg (by simpa using hr) hj
theorem solve_pre (M : List (List G)) (b : List G) (hM : Fit M) (hr : Rt M) (hb : b.length = M.length) (hw : wid M < 999999) {r : List Int × Bool}
    (h : Ev (fun k => linear_Solve.l0 k (wid M : Int) (psI (sv M b (wid M)).2) (bs (List.replicate (wid M) 0)) (bss (sv M b (wid M)).1) ((sv M b (wid M)).1.length : Int) 0) r) : Ev (fun k => linear_Solve.f k (bss M) (bs b)) r := by
  refine Ev.congr (fun k => linear_Solve.f.eq_1 _ _ _) ?_
  rw [right_some, bss_length, bs_length, decide_eq_true hr, show ((M.length : Int) != (b.length : Int)) = false by simp [hb]]
  refine Ev.somef (Ev.pos rfl (Ev.step (fun k => linear_Solve.j0.eq_2 _ _ _ _) (Ev.neg (by simp) ?_)))
  rw [width_some]
  have ha := Rt_aug (b := b) hr
  have he := reduce_ev (aug M b) (wid M : Int) (aug_fit hM hr hw) ha.1
  rw [cols_nat, ha.2] at he
  refine Ev.somef (Ev.bind (beside_ev M b hM hb) (Ev.bind he (Ev.pos (by omega) (Ev.pos (by rw [Int.toNat_natCast]; omega) ?_))))
  dsimp only
  rw [Int.toNat_natCast, bs_replicate, bss_length]
  exact h
theorem solve_yes (M : List (List G)) (b : List G) (hM : Fit M) (hr : Rt M) (hb : b.length = M.length) (hw : wid M < 999999) (hok : okS (sv M b (wid M)).1 (sv M b (wid M)).2 (wid M)) : Ev (fun k => linear_Solve.f k (bss M) (bs b)) (bs (svx M b (wid M)), true) := by
  refine solve_pre M b hM hr hb hw ?_
  have := (solve_l0 (sv M b (wid M)).1 (sv M b (wid M)).2 (wid M) (by rw [sv_length]; exact hM.1) (reduce_width _ (aug_width hr)) (reduce_RF _ _) _ 0 (Nat.zero_add _) (fun j _ h => by omega)).1 hok
  rw [Nat.zero_min] at this
  exact this
theorem solve_no (M : List (List G)) (b : List G) (hM : Fit M) (hr : Rt M) (hb : b.length = M.length) (hw : wid M < 999999) (hok : ¬ okS (sv M b (wid M)).1 (sv M b (wid M)).2 (wid M)) : Ev (fun k => linear_Solve.f k (bss M) (bs b)) ([], false) := by
  refine solve_pre M b hM hr hb hw ?_
  have := (solve_l0 (sv M b (wid M)).1 (sv M b (wid M)).2 (wid M) (by rw [sv_length]; exact hM.1) (reduce_width _ (aug_width hr)) (reduce_RF _ _) _ 0 (Nat.zero_add _) (fun j _ h => by omega)).2 hok
  rw [Nat.zero_min] at this
  exact this
end Go.Proofs.Ytanknpdibjfmlaa.Al
