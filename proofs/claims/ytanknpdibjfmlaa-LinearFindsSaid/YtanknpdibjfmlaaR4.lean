/- The document's functions over rows of bytes, one by one, are those of the theory. Conditions: sizes that fit, as each theorem states them. -/
import Derived.Test.YtanknpdibjfmlaaR3
import Derived.Test.YtanknpdibjfmlaaPx10
import Derived.Test.YtanknpdibjfmlaaPx11
import Derived.Test.YtanknpdibjfmlaaPx6
import Derived.Test.YtanknpdibjfmlaaPx8
import Derived.Test.YtanknpdibjfmlaaPx9
namespace Go.Proofs.Ytanknpdibjfmlaa.Al
open Go Go.RowKit Go.Proofs.YtanknpdibjfmlaaW.PrintWords Go.Proofs.YtanknpdibjfmlaaW.PrintMore Go.Proofs.Ytanknpdibjfmlaa.P
set_option linter.unusedVariables false
set_option linter.unusedSimpArgs false

/-! Right -/
theorem refright_l0 (M : List (List G)) (hM : M.length < 1000000) (d : Nat) : ∀ n : Nat, n + d = M.length → 0 < n → (∀ i, i < n → (row M i).length = wid M) → Ev (fun k => footlockerref03_Right.l0 k (bss M) (n : Int)) (decide (Rt M)) := by
  induction d with
  | zero =>
    intro n hn _ h
    refine Ev.step (fun k => footlockerref03_Right.l0.eq_2 _ _ _) (Ev.neg (by rw [bss_length]; omega) ?_)
    rw [decide_eq_true (show Rt M from fun i hi => h i (by omega))]
    exact Ev.now _
  | succ d ih =>
    intro n hn h0 h
    refine Ev.step (fun k => footlockerref03_Right.l0.eq_2 _ _ _) (Ev.pos (by rw [bss_length]; omega) (Ev.pos (by omega) (Ev.pos (by rw [bss_length]; omega) ?_)))
    rw [rd_bss, rd_bss0, bs_length, bs_length, wrap_succ (by omega)]
    by_cases e : (row M n).length = wid M
    · refine Ev.pos (by unfold wid at e; omega) (ih (n + 1) (by omega) (by omega) (fun i hi => ?_))
      by_cases e2 : i = n
      · rw [e2]; exact e
      · exact h i (by omega)
    · refine Ev.neg (by unfold wid at e; omega) ?_
      rw [decide_eq_false (fun hr : Rt M => e (hr n (by omega)))]
      exact Ev.now _
theorem refright_ev (M : List (List G)) (hM : M.length < 1000000) : Ev (fun k => footlockerref03_Right.f k (bss M)) (decide (Rt M)) := by
  refine Ev.congr (fun k => footlockerref03_Right.f.eq_1 _ _) ?_
  by_cases h : 0 < M.length
  · exact refright_l0 M hM (M.length - 1) 1 (by omega) (by omega) (fun i hi => by rw [show i = 0 by omega]; rfl)
  · refine Ev.step (fun k => footlockerref03_Right.l0.eq_2 _ _ _) (Ev.neg (by rw [bss_length]; omega) ?_)
    rw [decide_eq_true (show Rt M from fun i hi => by omega)]
    exact Ev.now _

/-! Reduce -/
theorem refcopy_c0 (M : List (List G)) (hM : Fit M) (d : Nat) : ∀ n : Nat, n + d = M.length → Ev (fun k => footlockerref03_Reduce.c0 k (bss M) (bss (M.take n)) (n : Int)) (bss M) := by
  have h1 := hM.1
  induction d with
  | zero =>
    intro n hn
    refine Ev.step (fun k => footlockerref03_Reduce.c0.eq_2 _ _ _ _) (Ev.neg (by rw [bss_length]; omega) ?_)
    rw [List.take_of_length_le (by omega)]
    exact Ev.now _
  | succ d ih =>
    intro n hn
    have h2 := hM.2 n (by omega)
    refine Ev.step (fun k => footlockerref03_Reduce.c0.eq_2 _ _ _ _) (Ev.pos (by rw [bss_length]; omega) (Ev.pos (by omega) ?_))
    rw [rd_bss, copy_some _ (by rw [bs_length]; omega)]
    refine Ev.somef (Ev.pos (by rw [bss_length, List.length_take]; omega) ?_)
    rw [bss_snoc, row_snoc_take (by omega), wrap_succ (by omega)]
    exact ih (n + 1) (by omega)
theorem refup_u0 (M : List (List G)) (w a c : Nat) (hM : M.length < 1000000) (hw : Wd M w) (hc : c < w) (ha : a ≤ M.length) (d : Nat) : ∀ n : Nat, n + d = M.length → a ≤ n → (∀ i, a ≤ i → i < n → co (row M i) c = 0) →
    Ev (fun k => footlockerref03_Reduce.u0 k (bss M) (c : Int) (n : Int)) (fnd M a c : Int) := by
  have hup : fnd M a c ≤ M.length := by
    have hle := List.findIdx_le_length (p := fun r => decide (co r c ≠ 0)) (xs := M.drop a)
    rw [List.length_drop] at hle
    unfold fnd
    omega
  induction d with
  | zero =>
    intro n hn han h
    refine Ev.step (fun k => footlockerref03_Reduce.u0.eq_2 _ _ _ _) (Ev.neg (by rw [bss_length]; omega) ?_)
    have : fnd M a c = n := by
      rcases Nat.lt_or_ge (fnd M a c) M.length with e | e
      · exact absurd (h _ (fnd_le M a c) (by omega)) (fnd_at e)
      · omega
    rw [this]
    exact Ev.now _
  | succ d ih =>
    intro n hn han h
    refine Ev.step (fun k => footlockerref03_Reduce.u0.eq_2 _ _ _ _) (Ev.pos (by rw [bss_length]; omega) (Ev.pos (by omega) (Ev.pos (by omega) ?_)))
    rw [rd_bss]
    refine Ev.pos (by rw [bs_length, hw n (by omega)]; omega) ?_
    rw [rd_bs]
    by_cases hz : co (row M n) c = 0
    · refine Ev.pos (by rw [hz]; rfl) ?_
      rw [wrap_succ (by omega)]
      refine ih (n + 1) (by omega) (by omega) (fun i h1 h2 => ?_)
      by_cases e : i = n
      · rw [e]; exact hz
      · exact h i h1 (by omega)
    · refine Ev.neg (by rw [i_eq_zero]; exact hz) ?_
      have : fnd M a c = n := by
        rcases Nat.lt_trichotomy (fnd M a c) n with e | e | e
        · exact absurd (h _ (fnd_le M a c) e) (fnd_at (by omega))
        · exact e
        · exact absurd (fnd_before han e) hz
      rw [this]
      exact Ev.now _
theorem refscale_s0 (p : List G) (b : G) (hp : p.length < 1000000) (d : Nat) : ∀ (n : Nat) (o : List G), n + d = p.length → o.length = p.length → (∀ j, co o j = if j < n then co p j * b else co p j) →
    Ev (fun k => footlockerref03_Reduce.s0 k (bs o) b.i (n : Int)) (bs (scale b p)) := by
  induction d with
  | zero =>
    intro n o hn ho h
    refine Ev.step (fun k => footlockerref03_Reduce.s0.eq_2 _ _ _ _) (Ev.neg (by rw [bs_length]; omega) ?_)
    have : o = scale b p := ext_co (by rw [scale_length, ho]) (fun j hj => by rw [h j, if_pos (by omega), co_scale, mul_comm])
    rw [this]
    exact Ev.now _
  | succ d ih =>
    intro n o hn ho h
    refine Ev.step (fun k => footlockerref03_Reduce.s0.eq_2 _ _ _ _) (Ev.pos (by rw [bs_length]; omega) (Ev.pos (by omega) ?_))
    rw [rd_bs]
    refine Ev.bind (refmul_ev _ _) ?_
    rw [Int.toNat_natCast, bs_set, wrap_succ (by omega)]
    refine ih (n + 1) _ (by omega) (by rw [List.length_set]; exact ho) (fun j => ?_)
    rw [co_set _ _ _ _ (by omega)]
    by_cases e : j = n
    · rw [if_pos e, e, if_pos (by omega), h n, if_neg (by omega)]
    · rw [if_neg e, h j]
      by_cases h2 : j < n
      · rw [if_pos h2, if_pos (by omega)]
      · rw [if_neg h2, if_neg (by omega)]
theorem reftake_e1 (s r : List G) (M : List (List G)) (i a : Nat) (c : G) (hM : M.length < 1000000) (hi : i < M.length) (ha : a < M.length) (hne : i ≠ a) (hs : row M a = s) (hr : row M i = r) (hl : s.length = r.length) (hr2 : r.length < 1000000) (d : Nat) :
    ∀ (n : Nat) (o : List G), n + d = s.length → o.length = r.length → (∀ j, co o j = if j < n then co r j + c * co s j else co r j) →
    Ev (fun k => footlockerref03_Reduce.e1 k (bss (M.set i o)) (i : Int) (a : Int) c.i (n : Int)) (bss (M.set i (zadd r (scale c s)))) := by
  have h1 : ∀ o, row (M.set i o) a = s := fun o => by rw [row_set _ _ _ _ hi, if_neg (fun e => hne e.symm), hs]
  have h2 : ∀ o, row (M.set i o) i = o := fun o => by rw [row_set _ _ _ _ hi, if_pos rfl]
  induction d with
  | zero =>
    intro n o hn ho h
    refine Ev.step (fun k => footlockerref03_Reduce.e1.eq_2 _ _ _ _ _ _) ?_
    rw [rd_bss, h1]
    refine Ev.neg (by rw [bs_length]; omega) ?_
    have : o = zadd r (scale c s) := ext_co (by rw [zadd_length, scale_length, ho, hl, Nat.max_self]) (fun j hj => by rw [h j, if_pos (by omega), co_zadd, co_scale])
    rw [this]
    exact Ev.now _
  | succ d ih =>
    intro n o hn ho h
    refine Ev.step (fun k => footlockerref03_Reduce.e1.eq_2 _ _ _ _ _ _) ?_
    rw [rd_bss, h1]
    refine Ev.pos (by rw [bs_length]; omega) (Ev.neg (by omega) (Ev.pos (by omega) ?_))
    rw [rd_bss, h2]
    refine Ev.pos (by rw [bs_length]; omega) ?_
    rw [rd_bs, rd_bs]
    refine Ev.bind (refmul_ev _ _) ?_
    rw [Int.toNat_natCast, Int.toNat_natCast, xor_i, bs_set, bss_set, wrap_succ (by omega), List.set_set]
    refine ih (n + 1) _ (by omega) (by rw [List.length_set]; exact ho) (fun j => ?_)
    rw [co_set _ _ _ _ (by omega)]
    by_cases e : j = n
    · rw [if_pos e, e, if_pos (by omega), h n, if_neg (by omega)]
    · rw [if_neg e, h j]
      by_cases h3 : j < n
      · rw [if_pos h3, if_pos (by omega)]
      · rw [if_neg h3, if_neg (by omega)]
theorem set_row {M : List (List G)} {i : Nat} (h : i < M.length) : M.set i (row M i) = M := by
  apply ext_row
  · rw [List.length_set]
  · intro k hk
    rw [row_set _ _ _ _ h]
    by_cases e : k = i
    · rw [if_pos e, e]
    · rw [if_neg e]
theorem refelim_e0 (M : List (List G)) (w a c u : Nat) (hM : M.length < 1000000) (hw : Wd M w) (hw2 : w < 1000000) (ha : a < M.length) (hu : u < M.length) (hc : c < w) (d : Nat) : ∀ (n : Nat) (N : List (List G)), n + d = M.length → N.length = M.length →
    (∀ k, k < M.length → row N k = if k = a then piv M c u else if k < n then row (elim M a c u) k else swp M a u k) →
    Ev (fun k => footlockerref03_Reduce.e0 k (bss N) (a : Int) (c : Int) (n : Int)) (bss (elim M a c u)) := by
  induction d with
  | zero =>
    intro n N hn hN h
    refine Ev.step (fun k => footlockerref03_Reduce.e0.eq_2 _ _ _ _ _) (Ev.neg (by rw [bss_length]; omega) ?_)
    have : N = elim M a c u := by
      apply ext_row
      · rw [hN, elim_length]
      · intro i hi
        rw [h i (by omega)]
        by_cases e : i = a
        · rw [if_pos e, e, row_elim ha, if_pos rfl]
        · rw [if_neg e, if_pos (by omega)]
    rw [this]
    exact Ev.now _
  | succ d ih =>
    intro n N hn hN h
    have hpl := piv_length (c := c) hw hu
    refine Ev.step (fun k => footlockerref03_Reduce.e0.eq_2 _ _ _ _ _) (Ev.pos (by rw [bss_length]; omega) (Ev.pos (by omega) (Ev.pos (by omega) ?_)))
    rw [rd_bss, wrap_succ (by omega)]
    have hs : row N a = piv M c u := by rw [h a ha, if_pos rfl]
    by_cases e : n = a
    · have hr : row N n = piv M c u := by rw [e, hs]
      rw [hr]
      refine Ev.pos (by rw [bs_length]; omega) ?_
      rw [rd_bs]
      refine Ev.bind (a := bss N) ?_ (ih (n + 1) N (by omega) hN (fun k hk => ?_))
      · refine Ev.step (fun k => footlockerref03_Reduce.e1.eq_2 _ _ _ _ _ _) ?_
        rw [rd_bss, hs]
        exact Ev.pos (by rw [bs_length]; omega) (Ev.pos (by omega) (Ev.now _))
      · rw [h k hk]
        by_cases e2 : k = a
        · rw [if_pos e2, if_pos e2]
        · rw [if_neg e2, if_neg e2]
          by_cases e3 : k < n
          · rw [if_pos e3, if_pos (by omega)]
          · rw [if_neg e3, if_neg (by omega)]
    · have hr : row N n = swp M a u n := by rw [h n (by omega), if_neg e, if_neg (Nat.lt_irrefl _)]
      have hrl := swp_width hw ha hu (k := n) (by omega)
      rw [hr]
      refine Ev.pos (by rw [bs_length]; omega) ?_
      rw [rd_bs]
      have he := reftake_e1 (piv M c u) (swp M a u n) N n a (co (swp M a u n) c) (by omega) (by omega) (by omega) e hs hr (by omega) (by omega) _ 0 (swp M a u n) (Nat.zero_add _) rfl (fun j => by rw [if_neg (Nat.not_lt_zero _)])
      rw [← hr, set_row (by omega), hr] at he
      refine Ev.bind he (ih (n + 1) _ (by omega) (by rw [List.length_set]; exact hN) (fun k hk => ?_))
      rw [row_set _ _ _ _ (by omega)]
      by_cases e2 : k = n
      · rw [if_pos e2, e2, if_neg e, if_pos (by omega), row_elim (by omega), if_neg e]
      · rw [if_neg e2, h k hk]
        by_cases e3 : k = a
        · rw [if_pos e3, if_pos e3]
        · rw [if_neg e3, if_neg e3]
          by_cases e4 : k < n
          · rw [if_pos e4, if_pos (by omega)]
          · rw [if_neg e4, if_neg (by omega)]
theorem refreduce_m0 (L : List (List G)) (w : Nat) (cs : Int) (hL : 0 < L.length) (hwL : wid L = w) (hw2 : w < 1000000) (d : Nat) : ∀ (M : List (List G)) (ps : List Nat) (c : Nat), M.length < 1000000 → Wd M w → ps.length ≤ M.length → c + d = cols cs w →
    Ev (fun k => footlockerref03_Reduce.m0 k (bss L) cs (bss M) (psI ps) (c : Int)) (bss (red d M ps c).1, psI (red d M ps c).2) := by
  induction d with
  | zero =>
    intro M ps c hM hw hp hc
    refine Ev.step (fun k => footlockerref03_Reduce.m0.eq_2 _ _ _ _ _ _) (Ev.pos (by rw [bss_length]; omega) ?_)
    rw [rd_bss0, bs_length]
    unfold cols at hc
    unfold wid at hwL
    by_cases h : (c : Int) < cs
    · exact Ev.pos h (Ev.neg (by omega) (Ev.now _))
    · exact Ev.neg h (Ev.now _)
  | succ d ih =>
    intro M ps c hM hw hp hc
    have hcw : c < w ∧ (c : Int) < cs := by unfold cols at hc; omega
    refine Ev.step (fun k => footlockerref03_Reduce.m0.eq_2 _ _ _ _ _ _) (Ev.pos (by rw [bss_length]; omega) (Ev.pos hcw.2 ?_))
    rw [rd_bss0, bs_length, psI_length, wrap_succ (by omega)]
    refine Ev.pos (by unfold wid at hwL; omega) (Ev.bind (refup_u0 M w ps.length c hM hw hcw.1 hp _ ps.length (Nat.add_sub_cancel' hp) (Nat.le_refl _) (fun i h1 h2 => by omega)) ?_)
    unfold red
    by_cases hf : fnd M ps.length c < M.length
    · have hle := fnd_le M ps.length c
      have hlt : ps.length < M.length := by omega
      rw [if_pos hf]
      refine Ev.neg (by rw [bss_length]; omega) (Ev.pos (by omega) (Ev.pos (by omega) ?_))
      rw [rd_bss]
      refine Ev.pos (by rw [bs_length, hw _ hf]; omega) ?_
      rw [rd_bs]
      refine Ev.bind (refinv_ev _) (Ev.bind (refscale_s0 _ _ (by rw [hw _ hf]; omega) _ 0 _ (Nat.zero_add _) rfl (fun j => by rw [if_neg (Nat.not_lt_zero _)])) ?_)
      rw [Int.toNat_natCast, sw_bss, bss_set]
      refine Ev.bind (refelim_e0 M w ps.length c (fnd M ps.length c) hM hw hw2 hlt hf hcw.1 M.length 0 _ (Nat.zero_add _) (by simp) (fun k hk => ?_)) ?_
      · rw [row_set _ _ _ _ (by simp; exact hlt), row_sw hlt hf]
        by_cases h : k = ps.length
        · rw [if_pos h, if_pos h]; rfl
        · rw [if_neg h, if_neg h, if_neg (Nat.not_lt_zero _)]
      · refine Ev.pos (by omega) ?_
        rw [psI_snoc]
        exact ih (elim M ps.length c (fnd M ps.length c)) (ps ++ [c]) (c + 1) (by rw [elim_length]; exact hM) (elim_width hw hlt hf) (by rw [elim_length]; simp; omega) (by omega)
    · rw [if_neg hf]
      exact Ev.pos (by rw [bss_length]; omega) (ih M ps (c + 1) hM hw hp (by omega))
theorem refreduce_ev (M : List (List G)) (a : Int) (hM : Fit M) (hr : Rt M) : Ev (fun k => footlockerref03_Reduce.f k (bss M) a) (bss (reduce M (cols a (wid M))).1, psI (reduce M (cols a (wid M))).2) := by
  refine Ev.congr (fun k => footlockerref03_Reduce.f.eq_1 _ _ _) (Ev.bind (refright_ev M hM.1) (Ev.pos (decide_eq_true hr) (Ev.bind (refcopy_c0 M hM M.length 0 (Nat.zero_add _)) ?_)))
  by_cases h : 0 < M.length
  · exact refreduce_m0 M (wid M) a h rfl hM.wid (cols a (wid M)) M [] 0 hM.1 hr (Nat.zero_le _) (Nat.zero_add _)
  · have e : cols a (wid M) = 0 := by
      unfold cols wid
      rw [row_ge (by omega)]
      exact Nat.min_zero _
    rw [e]
    exact Ev.step (fun k => footlockerref03_Reduce.m0.eq_2 _ _ _ _ _ _) (Ev.neg (by rw [bss_length]; omega) (Ev.now _))
theorem refreduce_no (M : List (List G)) (a : Int) (hM : M.length < 1000000) (hr : ¬ Rt M) : Ev (fun k => footlockerref03_Reduce.f k (bss M) a) ([], []) :=
  Ev.congr (fun k => footlockerref03_Reduce.f.eq_1 _ _ _) (Ev.bind (refright_ev M hM) (Ev.neg (by simpa using hr) (Ev.now _)))

/-! Times -/
theorem reftimes_loops (M : List (List G)) (x : List G) (hM : Fit M) (d : Nat) : ∀ n : Nat, n + d = M.length → Ev (fun k => footlockerref03_Times.l0 k (bss M) (bs x) (bs (tab n (fun i => dt (min (row M i).length x.length) (co (row M i)) (co x)))) (n : Int)) (bs (tms M x)) := by
  have h1 := hM.1
  induction d with
  | zero =>
    intro n hn
    refine Ev.step (fun k => footlockerref03_Times.l0.eq_2 _ _ _ _ _) (Ev.neg (by rw [bss_length]; omega) ?_)
    rw [show n = M.length by omega]
    exact Ev.now _
  | succ d ih =>
    intro n hn
    have h2 := hM.2 n (by omega)
    refine Ev.step (fun k => footlockerref03_Times.l0.eq_2 _ _ _ _ _) (Ev.pos (by rw [bss_length]; omega) ?_)
    have inner : ∀ (e m : Nat), m + e = min (row M n).length x.length → Ev (fun k => footlockerref03_Times.l1 k (bss M) (bs x) (bs (tab n (fun i => dt (min (row M i).length x.length) (co (row M i)) (co x)))) (n : Int) (dt m (co (row M n)) (co x)).i (m : Int)) (bs (tms M x)) := by
      intro e
      induction e with
      | zero =>
        intro m hm
        have hend : Ev (fun k => footlockerref03_Times.l0 k (bss M) (bs x) (bs (tab n (fun i => dt (min (row M i).length x.length) (co (row M i)) (co x))) ++ [(dt m (co (row M n)) (co x)).i]) (wrap64 ((n : Int) + 1))) (bs (tms M x)) := by
          have e2 : bs (tab n (fun i => dt (min (row M i).length x.length) (co (row M i)) (co x))) ++ [(dt m (co (row M n)) (co x)).i] = bs (tab (n + 1) (fun i => dt (min (row M i).length x.length) (co (row M i)) (co x))) := by
            rw [tab_succ, bs_append, show m = min (row M n).length x.length by omega]; rfl
          rw [e2, wrap_succ (by omega)]
          exact ih (n + 1) (by omega)
        refine Ev.step (fun k => footlockerref03_Times.l1.eq_2 _ _ _ _ _ _ _) (Ev.pos (by omega) (Ev.pos (by rw [bss_length]; omega) ?_))
        rw [rd_bss, bs_length, bs_length]
        have hfit : (bs (tab n (fun i => dt (min (row M i).length x.length) (co (row M i)) (co x)))).length < 140737488355328 := by rw [bs_length, tab_length]; omega
        by_cases hc : (m : Int) < ((row M n).length : Int)
        · exact Ev.pos hc (Ev.neg (by omega) (Ev.pos hfit hend))
        · exact Ev.neg hc (Ev.pos hfit hend)
      | succ e ihe =>
        intro m hm
        refine Ev.step (fun k => footlockerref03_Times.l1.eq_2 _ _ _ _ _ _ _) (Ev.pos (by omega) (Ev.pos (by rw [bss_length]; omega) ?_))
        rw [rd_bss, bs_length, bs_length]
        refine Ev.pos (by omega) (Ev.pos (by omega) (Ev.pos (by omega) ?_))
        rw [rd_bs, rd_bs]
        refine Ev.bind (refmul_ev _ _) ?_
        rw [xor_i, wrap_succ (by omega)]
        exact ihe (m + 1) (by omega)
    exact inner (min (row M n).length x.length) 0 (Nat.zero_add _)
theorem reftimes_ev (M : List (List G)) (x : List G) (hM : Fit M) : Ev (fun k => footlockerref03_Times.f k (bss M) (bs x)) (bs (tms M x)) :=
  Ev.congr (fun k => footlockerref03_Times.f.eq_1 _ _ _) (reftimes_loops M x hM M.length 0 (Nat.zero_add _))

/-! Join of a row and a byte -/
theorem join_two (p : List G) (b : G) (hp : p.length < 1000000) : Ev (fun k => footlockerref01_Join.f k [bs p, [b.i]]) (bs (p ++ [b])) := by
  refine Ev.congr (fun k => footlockerref01_Join.f.eq_1 _ _) ?_
  have r0 : rd_L1 [bs p, [b.i]] 0 = bs p := rfl
  have r1 : rd_L1 [bs p, [b.i]] 1 = [b.i] := rfl
  have hb := bs_length p
  have hl : ((([bs p, [b.i]] : List (List Int)).length : Nat) : Int) = 2 := rfl
  have w1 : wrap64 (0 + 1) = 1 := Al.wrap_sm (by omega) (by omega)
  have w2 : wrap64 (1 + 1) = 2 := Al.wrap_sm (by omega) (by omega)
  refine Ev.step (fun k => footlockerref01_Join.l0.eq_2 _ _ _ _) (Ev.pos (by rw [hl]; omega) (Ev.pos (by omega) ?_))
  rw [r0, w1]
  refine Ev.pos (by rw [List.length_nil]; omega) ?_
  refine Ev.step (fun k => footlockerref01_Join.l0.eq_2 _ _ _ _) (Ev.pos (by rw [hl]; omega) (Ev.pos (by omega) ?_))
  rw [r1, w2]
  refine Ev.pos (by simp only [List.nil_append, List.length_singleton]; omega) ?_
  refine Ev.step (fun k => footlockerref01_Join.l0.eq_2 _ _ _ _) (Ev.neg (by rw [hl]; omega) ?_)
  rw [List.nil_append, bs_append]
  exact Ev.now _

/-! Solve -/
theorem refsolve_l1 (M : List (List G)) (b : List G) (R : List (List G)) (ps : List Nat) (n : Nat) (hM : Fit M) (hR : R.length < 1000000) (hw : Wd R (n + 1)) (hf : RF R ps n) (d : Nat) : ∀ i : Nat, i + d = ps.length →
    Ev (fun k => footlockerref03_Solve.l1 k (bss M) (bs b) (n : Int) (bss R) (psI ps) (bs (outp R ps n i)) (i : Int)) (if tms M (outp R ps n ps.length) = b then (bs (outp R ps n ps.length), true) else ([], false)) := by
  have hlen := hf.len
  induction d with
  | zero =>
    intro i hi
    obtain rfl : i = ps.length := by omega
    refine Ev.step (fun k => footlockerref03_Solve.l1.eq_2 _ _ _ _ _ _ _ _) (Ev.neg (by rw [psI_length]; omega) (Ev.bind (reftimes_ev M _ hM) (Ev.bind (same_ev _ _ (by rw [bs_length, tms_length]; have := hM.1; omega)) ?_)))
    by_cases h : tms M (outp R ps n ps.length) = b
    · rw [if_pos h]
      exact Ev.pos (decide_eq_true (by rw [h])) (Ev.now _)
    · rw [if_neg h]
      exact Ev.neg (by simpa [bs_inj] using h) (Ev.now _)
  | succ d ih =>
    intro i hi
    have hx := hf.lt i (by omega)
    refine Ev.step (fun k => footlockerref03_Solve.l1.eq_2 _ _ _ _ _ _ _ _) (Ev.pos (by rw [psI_length]; omega) (Ev.pos (by omega) (Ev.pos (by rw [bss_length]; omega) (Ev.pos (by omega) ?_))))
    rw [rd_bss, rd_psI, rd_bs]
    refine Ev.pos (by rw [bs_length, hw i (by omega)]; omega) (Ev.pos (by omega) (Ev.pos (by rw [bs_length, outp_length]; omega) ?_))
    rw [Int.toNat_natCast, bs_set, wrap_succ (by omega)]
    exact ih (i + 1) (by omega)
theorem refsolve_l0 (M : List (List G)) (b : List G) (hM : Fit M) (hr : Rt M) (hb : b.length = M.length) (hw : wid M < 999999) (d : Nat) : ∀ i : Nat, i + d = M.length →
    Ev (fun k => footlockerref03_Solve.l0 k (bss M) (bs b) (((if i = 0 then 0 else wid M) : Nat) : Int) (bss ((aug M b).take i)) (i : Int)) (if tms M (svx M b (wid M)) = b then (bs (svx M b (wid M)), true) else ([], false)) := by
  have h1 := hM.1
  induction d with
  | zero =>
    intro i hi
    have hn : (if i = 0 then 0 else wid M) = wid M := by
      by_cases e : i = 0
      · rw [if_pos e, wid, row_ge (by omega)]
        rfl
      · rw [if_neg e]
    rw [hn, List.take_of_length_le (by rw [aug_length]; omega)]
    have ha := Rt_aug (b := b) hr
    have he := refreduce_ev (aug M b) (wid M : Int) (aug_fit hM hr hw) ha.1
    rw [cols_nat, ha.2] at he
    refine Ev.step (fun k => footlockerref03_Solve.l0.eq_2 _ _ _ _ _ _) (Ev.neg (by rw [bss_length]; omega) (Ev.bind he (Ev.pos (by omega) (Ev.pos (by rw [Int.toNat_natCast]; omega) ?_))))
    dsimp only
    rw [Int.toNat_natCast, bs_replicate]
    exact refsolve_l1 M b (sv M b (wid M)).1 (sv M b (wid M)).2 (wid M) hM (by rw [sv_length]; exact hM.1) (reduce_width _ (aug_width hr)) (reduce_RF _ _) _ 0 (Nat.zero_add _)
  | succ d ih =>
    intro i hi
    refine Ev.step (fun k => footlockerref03_Solve.l0.eq_2 _ _ _ _ _ _) (Ev.pos (by rw [bss_length]; omega) (Ev.pos (by omega) (Ev.pos (by rw [bs_length]; omega) ?_)))
    rw [rd_bss, rd_bs]
    refine Ev.bind (join_two _ _ (hM.2 i (by omega))) (Ev.pos (by rw [bss_length, List.length_take]; omega) ?_)
    have e : bss ((aug M b).take i) ++ [bs (row M i ++ [co b i])] = bss ((aug M b).take (i + 1)) := by
      rw [bss_snoc, ← row_aug (by omega), row_snoc_take (by rw [aug_length]; omega)]
    rw [e, wrap_succ (by omega), bs_length, hr i (by omega)]
    have := ih (i + 1) (by omega)
    rw [if_neg (Nat.succ_ne_zero i)] at this
    exact this
theorem refsolve_ev (M : List (List G)) (b : List G) (hM : Fit M) (hr : Rt M) (hb : b.length = M.length) (hw : wid M < 999999) : Ev (fun k => footlockerref03_Solve.f k (bss M) (bs b)) (if tms M (svx M b (wid M)) = b then (bs (svx M b (wid M)), true) else ([], false)) := by
  refine Ev.congr (fun k => footlockerref03_Solve.f.eq_1 _ _ _) (Ev.bind (refright_ev M hM.1) (Ev.pos (decide_eq_true hr) ?_))
  rw [bss_length, bs_length, show ((M.length : Int) != (b.length : Int)) = false by simp [hb]]
  refine Ev.step (fun k => footlockerref03_Solve.j0.eq_2 _ _ _ _) (Ev.neg (by simp) ?_)
  exact refsolve_l0 M b hM hr hb hw M.length 0 (Nat.zero_add _)
theorem refsolve_arg (M : List (List G)) (b : List G) (hM : M.length < 1000000) (h : ¬ (Rt M ∧ M.length = b.length)) : Ev (fun k => footlockerref03_Solve.f k (bss M) (bs b)) ([], false) := by
  refine Ev.congr (fun k => footlockerref03_Solve.f.eq_1 _ _ _) (Ev.bind (refright_ev M hM) ?_)
  have hj : Ev (fun k => footlockerref03_Solve.j0 k (bss M) (bs b) true) ([], false) := Ev.step (fun k => footlockerref03_Solve.j0.eq_2 _ _ _ _) (Ev.pos rfl (Ev.now _))
  rw [bss_length, bs_length]
  by_cases hr : Rt M
  · refine Ev.pos (decide_eq_true hr) ?_
    rw [show ((M.length : Int) != (b.length : Int)) = true by
      have : M.length ≠ b.length := fun e => h ⟨hr, e⟩
      simp
      omega]
    exact hj
  · exact Ev.neg (by simpa using hr) hj

/-! Same, SameInts -/
theorem sameR_l0 (M : List (List G)) (hM : Fit M) (d : Nat) : ∀ n : Nat, n + d = M.length → Ev (fun k => footlockerref03_Same.l0 k (bss M) (bss M) (n : Int)) true := by
  have h1 := hM.1
  induction d with
  | zero =>
    intro n hn
    exact Ev.step (fun k => footlockerref03_Same.l0.eq_2 _ _ _ _) (Ev.neg (by rw [bss_length]; omega) (Ev.now _))
  | succ d ih =>
    intro n hn
    refine Ev.step (fun k => footlockerref03_Same.l0.eq_2 _ _ _ _) (Ev.pos (by rw [bss_length]; omega) (Ev.pos (by omega) (Ev.pos (by rw [bss_length]; omega) ?_)))
    rw [rd_bss, wrap_succ (by omega)]
    exact Ev.bind (same_true rfl (by rw [bs_length]; have := hM.2 n (by omega); omega)) (Ev.pos rfl (ih (n + 1) (by omega)))
theorem sameR_ev (M : List (List G)) (hM : Fit M) : Ev (fun k => footlockerref03_Same.f k (bss M) (bss M)) true :=
  Ev.congr (fun k => footlockerref03_Same.f.eq_1 _ _ _) (Ev.pos rfl (sameR_l0 M hM M.length 0 (Nat.zero_add _)))
theorem sameI_l0 (a : List Int) (ha : a.length < 1000000) (d : Nat) : ∀ n : Nat, n + d = a.length → Ev (fun k => footlockerref01_SameInts.l0 k a a (n : Int)) true := by
  induction d with
  | zero =>
    intro n hn
    exact Ev.step (fun k => footlockerref01_SameInts.l0.eq_2 _ _ _ _) (Ev.neg (by omega) (Ev.now _))
  | succ d ih =>
    intro n hn
    refine Ev.step (fun k => footlockerref01_SameInts.l0.eq_2 _ _ _ _) (Ev.pos (by omega) (Ev.pos (by omega) (Ev.pos (by omega) (Ev.pos rfl ?_))))
    rw [wrap_succ (by omega)]
    exact ih (n + 1) (by omega)
theorem sameI_ev (a : List Int) (ha : a.length < 1000000) : Ev (fun k => footlockerref01_SameInts.f k a a) true :=
  Ev.congr (fun k => footlockerref01_SameInts.f.eq_1 _ _ _) (Ev.pos rfl (sameI_l0 a ha a.length 0 (Nat.zero_add _)))
end Go.Proofs.Ytanknpdibjfmlaa.Al
