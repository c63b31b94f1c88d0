/- The document's polynomials and helpers, function by function, are those of the theory. Conditions: lengths that fit, as each theorem states them. -/
import Derived.Test.YtmdiggcefmkciaaP1
import Derived.Test.YtmdiggcefmkciaaPx5
import Derived.Test.YtmdiggcefmkciaaPx6
import Derived.Test.YtmdiggcefmkciaaPx7
namespace Go.Proofs.Ytmdiggcefmkciaa.Al
open Go Go.RowKit Go.Proofs.YtmdiggcefmkciaaW.PrintWords Go.Proofs.YtmdiggcefmkciaaW.PrintMore Go.Proofs.Ytmdiggcefmkciaa.P
set_option linter.unusedVariables false
set_option linter.unusedSimpArgs false

/-! Same, Copy, Inv -/
theorem rd_drop {l : List Int} {n : Nat} (h : n < l.length) : l.drop n = rd l (n : Int) :: l.drop (n + 1) := by
  rw [List.drop_eq_getElem_cons h]
  simp [rd, List.getD_eq_getElem?_getD, List.getElem?_eq_getElem h]
theorem same_l0 (a b : List Int) (hl : a.length = b.length) (ha : a.length < 1000000000000) (d : Nat) : ∀ n : Nat, n + d = a.length → Ev (fun k => footlockerref01_Same.l0 k a b (n : Int)) (decide (a.drop n = b.drop n)) := by
  induction d with
  | zero =>
    intro n hn
    refine Ev.step (fun k => footlockerref01_Same.l0.eq_2 _ _ _ _) (Ev.neg (by omega) ?_)
    rw [List.drop_of_length_le (by omega), List.drop_of_length_le (by omega)]
    exact Ev.now _
  | succ d ih =>
    intro n hn
    refine Ev.step (fun k => footlockerref01_Same.l0.eq_2 _ _ _ _) (Ev.pos (by omega) (Ev.pos (by omega) (Ev.pos (by omega) ?_)))
    rw [rd_drop (show n < a.length by omega), rd_drop (show n < b.length by omega)]
    by_cases e : rd a (n : Int) = rd b (n : Int)
    · refine Ev.pos e ?_
      rw [wrap_succ (by omega)]
      refine evc (ih (n + 1) (by omega)) ?_
      rw [e]
      simp
    · refine Ev.neg e ?_
      rw [decide_eq_false (by intro h; exact e (List.cons.inj h).1)]
      exact Ev.now _
theorem same_ev (a b : List Int) (ha : a.length < 1000000000000) : Ev (fun k => footlockerref01_Same.f k a b) (decide (a = b)) := by
  refine Ev.congr (fun k => footlockerref01_Same.f.eq_1 _ _ _) ?_
  by_cases hl : a.length = b.length
  · refine Ev.pos (by omega) ?_
    have := same_l0 a b hl ha a.length 0 (by omega)
    rw [List.drop_zero, List.drop_zero] at this
    exact this
  · refine Ev.neg (by omega) ?_
    rw [decide_eq_false (by rintro rfl; exact hl rfl)]
    exact Ev.now _
theorem copy_some (l : List Int) (h : l.length < 1000000000000) : footlockerref01_Copy.f l = some l := by
  unfold footlockerref01_Copy.f
  simp only [Option.bind_some, List.length_nil, List.nil_append]
  rw [if_pos (by omega)]
theorem refinv_l0 (a : G) (d : Nat) : ∀ n : Nat, n + d = 256 → 1 ≤ n → (∀ b : G, a * b = 1 → (n : Int) ≤ b.i) → Ev (fun k => footlockerref01_Inv.l0 k a.i (n : Int)) (inv a).i := by
  induction d with
  | zero =>
    intro n hn _ h
    refine Ev.step (fun k => footlockerref01_Inv.l0.eq_2 _ _ _) (Ev.neg (by omega) ?_)
    have ha : a = 0 := by
      apply Classical.byContradiction
      intro hne
      have := h _ (mul_inv hne)
      have := i_lt (inv a)
      omega
    rw [ha, inv_zero]
    exact Ev.now _
  | succ d ih =>
    intro n hn h1 h
    refine Ev.step (fun k => footlockerref01_Inv.l0.eq_2 _ _ _) (Ev.pos (by omega) ?_)
    have e : (n : Int) % 256 = (G.of (n : Int)).i := by rw [i_of (by omega) (by omega)]; omega
    rw [e]
    refine Ev.bind (refmul_ev _ _) ?_
    by_cases hm : a * G.of (n : Int) = 1
    · refine Ev.pos (by rw [hm]; rfl) ?_
      rw [inv_unique hm]
      exact Ev.now _
    · refine Ev.neg (by rw [← i_one, i_inj]; exact hm) ?_
      rw [wrap_succ (by omega)]
      refine ih (n + 1) (by omega) (by omega) (fun b hb => ?_)
      have := h b hb
      rcases Int.lt_or_eq_of_le this with h2 | h2
      · omega
      · exfalso
        apply hm
        rw [h2, of_i]
        exact hb
theorem refinv_ev (a : G) : Ev (fun k => footlockerref01_Inv.f k a.i) (inv a).i := by
  refine Ev.congr (fun k => footlockerref01_Inv.f.eq_1 _ _) ?_
  refine refinv_l0 a 255 1 rfl (by omega) (fun b hb => ?_)
  have := i_nonneg b
  rcases Int.lt_or_eq_of_le this with h | h
  · omega
  · exfalso
    have : b = 0 := i_eq_zero.1 h.symm
    rw [this, mul_zero] at hb
    exact one_ne_zero hb.symm

/-! Trim, at, Add, Mul, Eval -/
theorem reftrim_l0 (p : List G) (hp : p.length < 1000000000000) : ∀ m : Nat, m ≤ p.length → (∀ j, m ≤ j → co p j = 0) → Ev (fun k => footlockerref02_Trim.l0 k (bs p) (m : Int)) (bs (trim p)) := by
  intro m
  induction m with
  | zero =>
    intro _ h
    refine Ev.step (fun k => footlockerref02_Trim.l0.eq_2 _ _ _) (Ev.neg (by omega) (Ev.pos (by omega) (Ev.pos (by rw [bs_length]; omega) ?_)))
    rw [trim_eq_nil (fun i => h i (Nat.zero_le _))]
    exact Ev.now _
  | succ m ih =>
    intro hm h
    have e : wrap64 (((m + 1 : Nat) : Int) - 1) = (m : Int) := wrap_pred m (by omega)
    refine Ev.step (fun k => footlockerref02_Trim.l0.eq_2 _ _ _) (Ev.pos (by omega) ?_)
    rw [e]
    refine Ev.pos (by omega) (Ev.pos (by rw [bs_length]; omega) ?_)
    rw [rd_bs]
    by_cases hz : co p m = 0
    · refine Ev.pos (by rw [hz]; rfl) ?_
      refine ih (by omega) (fun j hj => ?_)
      by_cases ej : j = m
      · rw [ej, hz]
      · exact h j (by omega)
    · refine Ev.neg (by rw [i_eq_zero]; exact hz) (Ev.pos (by omega) (Ev.pos (by rw [bs_length]; omega) ?_))
      have hl := trim_length_of h (.inr (by simpa using hz))
      rw [Int.toNat_natCast, bs_take, copy_some _ (by rw [bs_length]; simp; omega), trim_eq_take p, hl]
      exact Ev.now _
theorem reftrim_ev (p : List G) (hp : p.length < 1000000000000) : Ev (fun k => footlockerref02_Trim.f k (bs p)) (bs (trim p)) := by
  refine Ev.congr (fun k => footlockerref02_Trim.f.eq_1 _ _) ?_
  rw [bs_length]
  exact reftrim_l0 p hp p.length (Nat.le_refl _) (fun j hj => co_ge hj)
theorem refat_some (p : List G) (n : Nat) : footlockerref02_at.f (bs p) (n : Int) = some (co p n).i := by
  unfold footlockerref02_at.f
  rw [if_neg (by omega), bs_length]
  by_cases h : n < p.length
  · rw [if_neg (by omega), if_pos (by omega), if_pos (by omega), rd_bs]
  · rw [if_pos (by omega), co_ge (by omega)]
    rfl
theorem tab_bs (n : Nat) (f : Nat → G) : bs (tab n f) ++ [(f n).i] = bs (tab (n + 1) f) := by rw [tab_succ, bs_append]; rfl
theorem refadd_l0 (p q : List G) (hp : p.length < 100000000000) (hq : q.length < 100000000000) (d : Nat) : ∀ n : Nat, n + d = max p.length q.length →
    Ev (fun k => footlockerref02_Add.l0 k (bs p) (bs q) (bs (tab n (fun i => co p i + co q i))) (n : Int)) (bs (padd p q)) := by
  induction d with
  | zero =>
    intro n hn
    have hend : Ev (fun k => footlockerref02_Add.j1 k (bs p) (bs q) (bs (tab n (fun i => co p i + co q i))) (n : Int) false) (bs (padd p q)) := by
      refine Ev.step (fun k => footlockerref02_Add.j1.eq_2 _ _ _ _ _ _) (Ev.neg (by simp) (Ev.bind (reftrim_ev _ (by rw [tab_length]; omega)) ?_))
      rw [padd, zadd_tab, show max p.length q.length = n by omega]
      exact Ev.now _
    refine Ev.step (fun k => footlockerref02_Add.l0.eq_2 _ _ _ _ _) (Ev.neg (by rw [bs_length]; omega) ?_)
    rw [decide_eq_false (by rw [bs_length]; omega)]
    exact hend
  | succ d ih =>
    intro n hn
    have hgo : Ev (fun k => footlockerref02_Add.j1 k (bs p) (bs q) (bs (tab n (fun i => co p i + co q i))) (n : Int) true) (bs (padd p q)) := by
      refine Ev.step (fun k => footlockerref02_Add.j1.eq_2 _ _ _ _ _ _) (Ev.pos rfl ?_)
      rw [refat_some, refat_some]
      refine Ev.somef (Ev.somef (Ev.pos (by rw [bs_length, tab_length]; omega) ?_))
      rw [xor_i, tab_bs n (fun i => co p i + co q i), wrap_succ (by omega)]
      exact ih (n + 1) (by omega)
    refine Ev.step (fun k => footlockerref02_Add.l0.eq_2 _ _ _ _ _) ?_
    by_cases h : n < p.length
    · exact Ev.pos (by rw [bs_length]; omega) hgo
    · refine Ev.neg (by rw [bs_length]; omega) ?_
      rw [decide_eq_true (by rw [bs_length]; omega)]
      exact hgo
theorem refadd_ev (p q : List G) (hp : p.length < 100000000000) (hq : q.length < 100000000000) : Ev (fun k => footlockerref02_Add.f k (bs p) (bs q)) (bs (padd p q)) :=
  Ev.congr (fun k => footlockerref02_Add.f.eq_1 _ _ _) (refadd_l0 p q hp hq (max p.length q.length) 0 (by omega))
theorem rmul_tab (p q : List G) : pmul p q = trim (tab (p.length + q.length) (fun m => sum (fun j => co p j * co q (m - j)) (m + 1))) := by
  rw [← trim_pmul]
  apply trim_congr
  intro i
  rw [co_tab]
  split
  · exact co_pmul p q i
  · exact co_pmul_ge (fun i hi => co_ge hi) (fun i hi => co_ge hi) (by omega)
theorem refmul_loops (p q : List G) (hp : p.length < 100000000000) (hq : q.length < 100000000000) (d : Nat) : ∀ n : Nat, n + d = p.length + q.length →
    Ev (fun k => footlockerref02_Mul.l0 k (bs p) (bs q) (bs (tab n (fun m => sum (fun j => co p j * co q (m - j)) (m + 1)))) (n : Int)) (bs (pmul p q)) := by
  have hw : wrap64 (((bs p).length : Int) + ((bs q).length : Int)) = ((p.length + q.length : Nat) : Int) := by rw [bs_length, bs_length, wrap_sm (by omega) (by omega)]; omega
  induction d with
  | zero =>
    intro n hn
    refine Ev.step (fun k => footlockerref02_Mul.l0.eq_2 _ _ _ _ _) (Ev.neg (by rw [hw]; omega) (Ev.bind (reftrim_ev _ (by rw [tab_length]; omega)) ?_))
    rw [rmul_tab, show p.length + q.length = n by omega]
    exact Ev.now _
  | succ d ih =>
    intro n hn
    refine Ev.step (fun k => footlockerref02_Mul.l0.eq_2 _ _ _ _ _) (Ev.pos (by rw [hw]; omega) ?_)
    have inner : ∀ (e m : Nat), m + e = n + 1 → Ev (fun k => footlockerref02_Mul.l1 k (bs p) (bs q) (bs (tab n (fun m => sum (fun j => co p j * co q (m - j)) (m + 1)))) (n : Int) (sum (fun j => co p j * co q (n - j)) m).i (m : Int)) (bs (pmul p q)) := by
      intro e
      induction e with
      | zero =>
        intro m hm
        obtain rfl : m = n + 1 := by omega
        refine Ev.step (fun k => footlockerref02_Mul.l1.eq_2 _ _ _ _ _ _ _) (Ev.neg (by omega) (Ev.pos (by rw [bs_length, tab_length]; omega) ?_))
        rw [tab_bs n (fun m => sum (fun j => co p j * co q (m - j)) (m + 1)), wrap_succ (by omega)]
        exact ih (n + 1) (by omega)
      | succ e ihe =>
        intro m hm
        refine Ev.step (fun k => footlockerref02_Mul.l1.eq_2 _ _ _ _ _ _ _) (Ev.pos (by omega) ?_)
        have hw2 : wrap64 ((n : Int) - (m : Int)) = ((n - m : Nat) : Int) := by rw [wrap_sm (by omega) (by omega)]; omega
        rw [hw2, refat_some, refat_some]
        refine Ev.somef (Ev.somef (Ev.bind (refmul_ev _ _) ?_))
        rw [xor_i, wrap_succ (by omega)]
        exact ihe (m + 1) (by omega)
    exact inner (n + 1) 0 (by omega)
theorem refpmul_ev (p q : List G) (hp : p.length < 100000000000) (hq : q.length < 100000000000) : Ev (fun k => footlockerref02_Mul.f k (bs p) (bs q)) (bs (pmul p q)) :=
  Ev.congr (fun k => footlockerref02_Mul.f.eq_1 _ _ _) (refmul_loops p q hp hq (p.length + q.length) 0 (by omega))
def pw (x : G) : Nat → G
  | 0 => 1
  | n + 1 => pw x n * x
theorem ev_sum (p : List G) (x : G) : ev p x = sum (fun i => co p i * pw x i) p.length := by
  induction p with
  | nil => rfl
  | cons a p ih =>
    rw [ev_cons, ih, List.length_cons, sum_front]
    show a + _ = a * 1 + _
    rw [mul_one]
    congr 1
    rw [← sum_mul]
    apply sum_congr
    intro i _
    rw [co_succ, pw, mul_left_comm, mul_comm x]
theorem refeval_l0 (p : List G) (x : G) (hp : p.length < 100000000000) (d : Nat) : ∀ n : Nat, n + d = p.length →
    Ev (fun k => footlockerref02_Eval.l0 k (bs p) x.i (sum (fun i => co p i * pw x i) n).i (pw x n).i (n : Int)) (ev p x).i := by
  induction d with
  | zero =>
    intro n hn
    refine Ev.step (fun k => footlockerref02_Eval.l0.eq_2 _ _ _ _ _ _) (Ev.neg (by rw [bs_length]; omega) ?_)
    rw [ev_sum, show p.length = n by omega]
    exact Ev.now _
  | succ d ih =>
    intro n hn
    refine Ev.step (fun k => footlockerref02_Eval.l0.eq_2 _ _ _ _ _ _) (Ev.pos (by rw [bs_length]; omega) (Ev.pos (by omega) ?_))
    rw [rd_bs]
    refine Ev.bind (refmul_ev _ _) (Ev.bind (refmul_ev _ _) ?_)
    rw [xor_i, wrap_succ (by omega)]
    exact ih (n + 1) (by omega)
theorem refeval_ev (p : List G) (x : G) (hp : p.length < 100000000000) : Ev (fun k => footlockerref02_Eval.f k (bs p) x.i) (ev p x).i :=
  Ev.congr (fun k => footlockerref02_Eval.f.eq_1 _ _ _) (refeval_l0 p x hp p.length 0 (by omega))
end Go.Proofs.Ytmdiggcefmkciaa.Al
