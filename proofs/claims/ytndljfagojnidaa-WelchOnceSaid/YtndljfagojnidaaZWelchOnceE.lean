/- What the statement's proof uses: lemmas, and the program's functions as Lean functions; each theorem states its own conditions. Joined by a program. -/
import Derived.Test.YtndljfagojnidaaZWelchOnceD
namespace Go.Proofs.Ytndljfagojnidaa.Al
open Go Go.RowKit Go.Proofs.YtndljfagojnidaaW.PrintWords Go.Proofs.YtndljfagojnidaaW.PrintMore Go.Proofs.Ytndljfagojnidaa.P
set_option linter.unusedVariables false
set_option linter.unusedSimpArgs false
theorem refinv_ev (a : G) : Ev (fun k => footlockerref01_Inv.f k a.i) (inv a).i := by
 refine Ev.congr (fun k => footlockerref01_Inv.f.eq_1 _ _) ?_
 refine refinv_l0 a 255 1 rfl (by omega) (fun b hb => ?_)
 have := i_nonneg b
 rcases Int.lt_or_eq_of_le this with h | h
 ·omega
 ·exfalso
  have : b = 0 := i_eq_zero.1 h.symm
  rw [this, mul_zero] at hb
  exact one_ne_zero hb.symm
theorem wf_u8 {x : Int} (h : (Lit.int .u8 x).wf = true) : 0 ≤ x ∧ x < 256 := by
 simp [Lit.wf, IntKind.min, IntKind.max, IntKind.bits, IntKind.signed] at h
 omega
theorem bytes_in {l : List Int} (h : ∀ x ∈ l, (Lit.int .u8 x).wf = true) : ∃ p, l = bs p := of_bytes l (fun x hx => wf_u8 (h x hx))
theorem byte_in {x : Int} (h : (Lit.int .u8 x).wf = true) : ∃ a : G, x = a.i := ⟨G.of x, (i_of (wf_u8 h).1 (wf_u8 h).2).symm⟩
theorem same_true {a b : List Int} (h : a = b) (ha : a.length < 1000000000000) : Ev (fun k => footlockerref01_Same.f k a b) true := by
 have := same_ev a b ha
 rwa [decide_eq_true h] at this
end Go.Proofs.Ytndljfagojnidaa.Al
namespace Go.Proofs.Ytndljfagojnidaa.Al
open Go Go.RowKit Go.Proofs.YtndljfagojnidaaW.PrintWords Go.Proofs.YtndljfagojnidaaW.PrintMore Go.Proofs.Ytndljfagojnidaa.P
set_option linter.unusedVariables false
set_option linter.unusedSimpArgs false
theorem reftrim_l0 (p : List G) (hp : p.length < 1000000000000) : ∀ m : Nat, m ≤ p.length → (∀ j, m ≤ j → co p j = 0) → Ev (fun k => footlockerref02_Trim.l0 k (bs p) (m : Int)) (bs (trim p)) := by
 intro m
 induction m with
 | zero =>
  intro _ h
  refine Ev.step (fun k => footlockerref02_Trim.l0.eq_2 _ _ _) (Ev.neg (by omega) (Ev.pos (by omega) (Ev.pos (by rw [bs_length]; omega) ?_)))
  rw [trim_eq_nil (fun i => h i (Nat.zero_le _))]
  exact Ev.now _
 | succ m ih =>
  intro hm h
  have e : wrap64 (((m + 1 : Nat) : Int) - 1) = (m : Int) := wrap_pred m (by omega)
  refine Ev.step (fun k => footlockerref02_Trim.l0.eq_2 _ _ _) (Ev.pos (by omega) ?_)
  rw [e]
  refine Ev.pos (by omega) (Ev.pos (by rw [bs_length]; omega) ?_)
  rw [rd_bs]
  by_cases hz : co p m = 0
  ·refine Ev.pos (by rw [hz]; rfl) ?_
   refine ih (by omega) (fun j hj => ?_)
   by_cases ej : j = m
   ·rw [ej, hz]
   ·exact h j (by omega)
  ·refine Ev.neg (by rw [i_eq_zero]; exact hz) (Ev.pos (by omega) (Ev.pos (by rw [bs_length]; omega) ?_))
   have hl := trim_length_of h (.inr (by simpa using hz))
   rw [Int.toNat_natCast, bs_take, copy_some _ (by rw [bs_length]; simp; omega), trim_eq_take p, hl]
   exact Ev.now _
theorem reftrim_ev (p : List G) (hp : p.length < 1000000000000) : Ev (fun k => footlockerref02_Trim.f k (bs p)) (bs (trim p)) := by
 refine Ev.congr (fun k => footlockerref02_Trim.f.eq_1 _ _) ?_
 rw [bs_length]
 exact reftrim_l0 p hp p.length (Nat.le_refl _) (fun j hj => co_ge hj)
theorem refat_some (p : List G) (n : Nat) : footlockerref02_at.f (bs p) (n : Int) = some (co p n).i := by
 unfold footlockerref02_at.f
 rw [if_neg (by omega), bs_length]
 by_cases h : n < p.length
 ·rw [if_neg (by omega), if_pos (by omega), if_pos (by omega), rd_bs]
 ·rw [if_pos (by omega), co_ge (by omega)]
  rfl
theorem tab_bs (n : Nat) (f : Nat → G) : bs (tab n f) ++ [(f n).i] = bs (tab (n + 1) f) := by rw [tab_succ, bs_append]; rfl
theorem refadd_l0 (p q : List G) (hp : p.length < 100000000000) (hq : q.length < 100000000000) (d : Nat) : ∀ n : Nat, n + d = max p.length q.length →
 Ev (fun k => footlockerref02_Add.l0 k (bs p) (bs q) (bs (tab n (fun i => co p i + co q i))) (n : Int)) (bs (padd p q)) := by
 induction d with
 | zero =>
  intro n hn
  have hend : Ev (fun k => footlockerref02_Add.j1 k (bs p) (bs q) (bs (tab n (fun i => co p i + co q i))) (n : Int) false) (bs (padd p q)) := by
   refine Ev.step (fun k => footlockerref02_Add.j1.eq_2 _ _ _ _ _ _) (Ev.neg (by simp) (Ev.bind (reftrim_ev _ (by rw [tab_length]; omega)) ?_))
   rw [padd, zadd_tab, show max p.length q.length = n by omega]
   exact Ev.now _
  refine Ev.step (fun k => footlockerref02_Add.l0.eq_2 _ _ _ _ _) (Ev.neg (by rw [bs_length]; omega) ?_)
  rw [decide_eq_false (by rw [bs_length]; omega)]
  exact hend
 | succ d ih =>
  intro n hn
  have hgo : Ev (fun k => footlockerref02_Add.j1 k (bs p) (bs q) (bs (tab n (fun i => co p i + co q i))) (n : Int) true) (bs (padd p q)) := by
   refine Ev.step (fun k => footlockerref02_Add.j1.eq_2 _ _ _ _ _ _) (Ev.pos rfl ?_)
   rw [refat_some, refat_some]
   refine Ev.somef (Ev.somef (Ev.pos (by rw [bs_length, tab_length]; omega) ?_))
   rw [xor_i, tab_bs n (fun i => co p i + co q i), wrap_succ (by omega)]
   exact ih (n + 1) (by omega)
  refine Ev.step (fun k => footlockerref02_Add.l0.eq_2 _ _ _ _ _) ?_
  by_cases h : n < p.length
  ·exact Ev.pos (by rw [bs_length]; omega) hgo
  ·refine Ev.neg (by rw [bs_length]; omega) ?_
   rw [decide_eq_true (by rw [bs_length]; omega)]
   exact hgo
theorem refadd_ev (p q : List G) (hp : p.length < 100000000000) (hq : q.length < 100000000000) : Ev (fun k => footlockerref02_Add.f k (bs p) (bs q)) (bs (padd p q)) :=
 Ev.congr (fun k => footlockerref02_Add.f.eq_1 _ _ _) (refadd_l0 p q hp hq (max p.length q.length) 0 (by omega))
theorem rmul_tab (p q : List G) : pmul p q = trim (tab (p.length + q.length) (fun m => sum (fun j => co p j * co q (m - j)) (m + 1))) := by
 rw [← trim_pmul]
 apply trim_congr
 intro i
 rw [co_tab]
 split
 ·exact co_pmul p q i
 ·exact co_pmul_ge (fun i hi => co_ge hi) (fun i hi => co_ge hi) (by omega)
theorem refmul_loops (p q : List G) (hp : p.length < 100000000000) (hq : q.length < 100000000000) (d : Nat) : ∀ n : Nat, n + d = p.length + q.length →
 Ev (fun k => footlockerref02_Mul.l0 k (bs p) (bs q) (bs (tab n (fun m => sum (fun j => co p j * co q (m - j)) (m + 1)))) (n : Int)) (bs (pmul p q)) := by
 have hw : wrap64 (((bs p).length : Int) + ((bs q).length : Int)) = ((p.length + q.length : Nat) : Int) := by rw [bs_length, bs_length, wrap_sm (by omega) (by omega)]; omega
 induction d with
 | zero =>
  intro n hn
  refine Ev.step (fun k => footlockerref02_Mul.l0.eq_2 _ _ _ _ _) (Ev.neg (by rw [hw]; omega) (Ev.bind (reftrim_ev _ (by rw [tab_length]; omega)) ?_))
  rw [rmul_tab, show p.length + q.length = n by omega]
  exact Ev.now _
 | succ d ih =>
  intro n hn
  refine Ev.step (fun k => footlockerref02_Mul.l0.eq_2 _ _ _ _ _) (Ev.pos (by rw [hw]; omega) ?_)
  have inner : ∀ (e m : Nat), m + e = n + 1 → Ev (fun k => footlockerref02_Mul.l1 k (bs p) (bs q) (bs (tab n (fun m => sum (fun j => co p j * co q (m - j)) (m + 1)))) (n : Int) (sum (fun j => co p j * co q (n - j)) m).i (m : Int)) (bs (pmul p q)) := by
   intro e
   induction e with
   | zero =>
    intro m hm
    obtain rfl : m = n + 1 := by omega
    refine Ev.step (fun k => footlockerref02_Mul.l1.eq_2 _ _ _ _ _ _ _) (Ev.neg (by omega) (Ev.pos (by rw [bs_length, tab_length]; omega) ?_))
    rw [tab_bs n (fun m => sum (fun j => co p j * co q (m - j)) (m + 1)), wrap_succ (by omega)]
    exact ih (n + 1) (by omega)
   | succ e ihe =>
    intro m hm
    refine Ev.step (fun k => footlockerref02_Mul.l1.eq_2 _ _ _ _ _ _ _) (Ev.pos (by omega) ?_)
    have hw2 : wrap64 ((n : Int) - (m : Int)) = ((n - m : Nat) : Int) := by rw [wrap_sm (by omega) (by omega)]; omega
    rw [hw2, refat_some, refat_some]
    refine Ev.somef (Ev.somef (Ev.bind (refmul_ev _ _) ?_))
    rw [xor_i, wrap_succ (by omega)]
    exact ihe (m + 1) (by omega)
  exact inner (n + 1) 0 (by omega)
theorem refpmul_ev (p q : List G) (hp : p.length < 100000000000) (hq : q.length < 100000000000) : Ev (fun k => footlockerref02_Mul.f k (bs p) (bs q)) (bs (pmul p q)) :=
 Ev.congr (fun k => footlockerref02_Mul.f.eq_1 _ _ _) (refmul_loops p q hp hq (p.length + q.length) 0 (by omega))
def pw (x : G) : Nat → G
 | 0 => 1
 | n + 1 => pw x n * x
theorem ev_sum (p : List G) (x : G) : ev p x = sum (fun i => co p i * pw x i) p.length := by
 induction p with
 | nil => rfl
 | cons a p ih =>
  rw [ev_cons, ih, List.length_cons, sum_front]
  show a + _ = a * 1 + _
  rw [mul_one]
  congr 1
  rw [← sum_mul]
  apply sum_congr
  intro i _
  rw [co_succ, pw, mul_left_comm, mul_comm x]
theorem refeval_l0 (p : List G) (x : G) (hp : p.length < 100000000000) (d : Nat) : ∀ n : Nat, n + d = p.length →
 Ev (fun k => footlockerref02_Eval.l0 k (bs p) x.i (sum (fun i => co p i * pw x i) n).i (pw x n).i (n : Int)) (ev p x).i := by
 induction d with
 | zero =>
  intro n hn
  refine Ev.step (fun k => footlockerref02_Eval.l0.eq_2 _ _ _ _ _ _) (Ev.neg (by rw [bs_length]; omega) ?_)
  rw [ev_sum, show p.length = n by omega]
  exact Ev.now _
 | succ d ih =>
  intro n hn
  refine Ev.step (fun k => footlockerref02_Eval.l0.eq_2 _ _ _ _ _ _) (Ev.pos (by rw [bs_length]; omega) (Ev.pos (by omega) ?_))
  rw [rd_bs]
  refine Ev.bind (refmul_ev _ _) (Ev.bind (refmul_ev _ _) ?_)
  rw [xor_i, wrap_succ (by omega)]
  exact ih (n + 1) (by omega)
theorem refeval_ev (p : List G) (x : G) (hp : p.length < 100000000000) : Ev (fun k => footlockerref02_Eval.f k (bs p) x.i) (ev p x).i :=
 Ev.congr (fun k => footlockerref02_Eval.f.eq_1 _ _ _) (refeval_l0 p x hp p.length 0 (by omega))
end Go.Proofs.Ytndljfagojnidaa.Al
namespace Go.Proofs.Ytndljfagojnidaa.Al
open Go Go.RowKit Go.Proofs.YtndljfagojnidaaW.PrintWords Go.Proofs.YtndljfagojnidaaW.PrintMore Go.Proofs.Ytndljfagojnidaa.P
set_option linter.unusedVariables false
set_option linter.unusedSimpArgs false
theorem nodup_co {xs : List G} : xs.Nodup ↔ ∀ a b, a < b → b < xs.length → co xs a ≠ co xs b := by
 rw [List.Nodup, List.pairwise_iff_getElem]
 constructor
 ·intro h a b hab hb
  rw [co_lt (by omega), co_lt hb]
  exact h a b (by omega) hb hab
 ·intro h a b ha hb hab
  have := h a b hab hb
  rwa [co_lt ha, co_lt hb] at this
def nst (xs ys : List G) : Nat → List G × List G
 | 0 => ([], [1])
 | n + 1 =>
  let s := nst xs ys n
  (padd s.1 (scale ((co ys n + ev s.1 (co xs n)) * inv (ev s.2 (co xs n))) s.2), pmul s.2 [co xs n, 1])
def interp (xs ys : List G) : List G := (nst xs ys xs.length).1
theorem ev_lin (a x : G) : ev [a, 1] x = a + x := by simp only [ev_cons, ev_nil, mul_zero, add_zero, mul_one]
theorem pmul_len_le (p q : List G) (h : 0 < q.length) : (pmul p q).length ≤ p.length + q.length - 1 := by
 apply trim_len_le_of
 intro j hj
 rw [← co_trim]
 exact co_pmul_ge (fun i hi => co_ge hi) (fun i hi => co_ge hi) (by omega)
theorem nst_facts (xs ys : List G) (hd : xs.Nodup) : ∀ n, n ≤ xs.length → (nst xs ys n).1.length ≤ n ∧ trim (nst xs ys n).1 = (nst xs ys n).1 ∧ (nst xs ys n).2.length ≤ n + 1 ∧
 (∀ j, j < n → ev (nst xs ys n).1 (co xs j) = co ys j) ∧ (∀ j, j < n → ev (nst xs ys n).2 (co xs j) = 0) ∧ (∀ x, (∀ j, j < n → x ≠ co xs j) → ev (nst xs ys n).2 x ≠ 0) := by
 intro n
 induction n with
 | zero =>
  intro _
  refine ⟨Nat.le_refl _, rfl, Nat.le_refl _, fun j hj => by omega, fun j hj => by omega, fun x _ => ?_⟩
  show ev [1] x ≠ 0
  rw [ev_cons, ev_nil, mul_zero, add_zero]
  exact one_ne_zero
 | succ n ih =>
  intro hn
  obtain ⟨h1, h2, h3, h4, h5, h6⟩ := ih (by omega)
  have hz : ev (nst xs ys n).2 (co xs n) ≠ 0 := h6 _ (fun j hj e => nodup_co.1 hd j n hj (by omega) e.symm)
  refine ⟨?_, trim_padd _ _, ?_, ?_, ?_, ?_⟩
  ·refine Nat.le_trans (padd_length_le _ _) ?_
   rw [scale_length]
   omega
  ·refine Nat.le_trans (pmul_len_le _ _ (by simp)) ?_
   simp only [List.length_cons, List.length_nil]
   omega
  ·intro j hj
   show ev (padd _ _) _ = _
   rw [ev_padd, ev_scale]
   by_cases e : j = n
   ·subst e
    rw [mul_assoc, inv_mul hz, mul_one, add_comm (co ys j), add_add_self]
   ·rw [h5 j (by omega), mul_zero, add_zero, h4 j (by omega)]
  ·intro j hj
   show ev (pmul _ _) _ = _
   rw [ev_pmul, ev_lin]
   by_cases e : j = n
   ·rw [e, add_self, mul_zero]
   ·rw [h5 j (by omega), zero_mul]
  ·intro x hx
   show ev (pmul _ _) _ ≠ _
   rw [ev_pmul, ev_lin]
   refine mul_ne_zero (h6 x (fun j hj => hx j (by omega))) (fun e => ?_)
   exact hx n (by omega) (add_eq_zero.1 e).symm
theorem interp_facts {xs ys : List G} (hd : xs.Nodup) : (interp xs ys).length ≤ xs.length ∧ trim (interp xs ys) = interp xs ys ∧ ∀ j, j < xs.length → ev (interp xs ys) (co xs j) = co ys j := by
 obtain ⟨h1, h2, _, h4, _⟩ := nst_facts xs ys hd xs.length (Nat.le_refl _)
 exact ⟨h1, h2, h4⟩
theorem interp_unique {xs ys p : List G} (hd : xs.Nodup) (hp : p.length ≤ xs.length) (h : ∀ j, j < xs.length → ev p (co xs j) = co ys j) : trim p = interp xs ys := by
 obtain ⟨h1, h2, h3⟩ := interp_facts (ys := ys) hd
 rw [← h2]
 apply trim_congr
 apply same_of_values hd hp h1
 intro x hx
 obtain ⟨j, hj, rfl⟩ := List.getElem_of_mem hx
 rw [← co_lt hj, h j hj, h3 j hj]
theorem refthrough_loops (xs ys : List G) (hd : xs.Nodup) (hl : xs.length = ys.length) (hx : xs.length < 1000000000) (d : Nat) : ∀ (o : List G) (n : Nat), n + d = xs.length → o.length ≤ xs.length → trim o = o →
 (∀ j, j < xs.length → ev o (co xs j) = if j < n then co ys j else 0) → Ev (fun k => footlockerref02_Through.l0 k (bs xs) (bs ys) (bs o) (n : Int)) (bs (interp xs ys)) := by
 induction d with
 | zero =>
  intro o n hn ho ht h
  refine Ev.step (fun k => footlockerref02_Through.l0.eq_2 _ _ _ _ _) (Ev.neg (by rw [bs_length]; omega) ?_)
  rw [← interp_unique (ys := ys) hd ho (fun j hj => by rw [h j hj, if_pos (by omega)]), ht]
  exact Ev.now _
 | succ d ih =>
  intro o n hn ho ht h
  refine Ev.step (fun k => footlockerref02_Through.l0.eq_2 _ _ _ _ _) (Ev.pos (by rw [bs_length]; omega) ?_)
  have inner : ∀ (e : Nat) (one : List G) (below : G) (j : Nat), j + e = xs.length → one.length ≤ (if n < j then j else j + 1) → below ≠ 0 → ev one (co xs n) = below → (∀ a, a < j → a ≠ n → ev one (co xs a) = 0) →
   Ev (fun k => footlockerref02_Through.l1 k (bs xs) (bs ys) (bs o) (n : Int) (bs one) below.i (j : Int)) (bs (interp xs ys)) := by
   intro e
   induction e with
   | zero =>
    intro one below j hj h1 h2 h3 h4
    rw [if_pos (by omega)] at h1
    refine Ev.step (fun k => footlockerref02_Through.l1.eq_2 _ _ _ _ _ _ _ _) (Ev.neg (by rw [bs_length]; omega) (Ev.pos (by omega) (Ev.pos (by rw [bs_length]; omega) ?_)))
    refine Ev.bind (refinv_ev _) ?_
    rw [rd_bs]
    refine Ev.bind (refmul_ev _ _) (Ev.bind (a := bs (pmul one [co ys n * inv below])) (refpmul_ev one [co ys n * inv below] (by omega) (by simp)) ?_)
    have hpl := pmul_len_le one [co ys n * inv below] (by simp)
    simp only [List.length_cons, List.length_nil] at hpl
    refine Ev.bind (refadd_ev _ _ (by omega) (by omega)) ?_
    rw [wrap_succ (by omega)]
    refine ih _ (n + 1) (by omega) (Nat.le_trans (padd_length_le _ _) (by omega)) (trim_padd _ _) (fun a ha => ?_)
    rw [ev_padd, ev_pmul, h a ha, ev_cons, ev_nil, mul_zero, add_zero]
    by_cases e : a = n
    ·subst e
     rw [if_neg (by omega), if_pos (by omega), h3, zero_add, mul_comm, mul_assoc, inv_mul h2, mul_one]
    ·rw [h4 a (by omega) e, zero_mul, add_zero]
     by_cases h5 : a < n
     ·rw [if_pos h5, if_pos (by omega)]
     ·rw [if_neg h5, if_neg (by omega)]
   | succ e ihe =>
    intro one below j hj h1 h2 h3 h4
    refine Ev.step (fun k => footlockerref02_Through.l1.eq_2 _ _ _ _ _ _ _ _) (Ev.pos (by rw [bs_length]; omega) ?_)
    by_cases ej : j = n
    ·subst ej
     refine Ev.pos rfl ?_
     rw [wrap_succ (by omega)]
     refine ihe one below (j + 1) (by omega) ?_ h2 h3 (fun a ha hne => h4 a (by omega) hne)
     rw [if_pos (by omega)]
     rw [if_neg (by omega)] at h1
     exact h1
    ·have hlen : one.length ≤ j + 1 := by split at h1 <;> omega
     refine Ev.neg (by omega) (Ev.pos (by omega) ?_)
     rw [rd_bs, rd_bs]
     refine Ev.bind (a := bs (pmul one [co xs j, 1])) (refpmul_ev one [co xs j, 1] (by omega) (by simp)) (Ev.pos (by omega) (Ev.pos (by rw [bs_length]; omega) ?_))
     rw [xor_i]
     refine Ev.bind (refmul_ev _ _) ?_
     rw [wrap_succ (by omega)]
     have hne : co xs n + co xs j ≠ 0 := by
      intro e0
      have e1 := add_eq_zero.1 e0
      rcases Nat.lt_or_gt_of_ne ej with h5 | h5
      ·exact nodup_co.1 hd j n h5 (by omega) e1.symm
      ·exact nodup_co.1 hd n j h5 (by omega) e1
     have hpl := pmul_len_le one [co xs j, 1] (by simp)
     simp only [List.length_cons, List.length_nil] at hpl
     refine ihe _ _ (j + 1) (by omega) ?_ (mul_ne_zero h2 hne) ?_ ?_
     ·by_cases h5 : n < j
      ·rw [if_pos h5] at h1
       rw [if_pos (by omega)]
       omega
      ·rw [if_neg h5] at h1
       rw [if_neg (by omega)]
       omega
     ·rw [ev_pmul, h3, ev_lin, add_comm (co xs j)]
     ·intro a ha hne'
      rw [ev_pmul, ev_lin]
      by_cases ea : a = j
      ·rw [ea, add_self, mul_zero]
      ·rw [h4 a (by omega) hne', zero_mul]
  refine inner xs.length [1] 1 0 (by omega) (by simp) one_ne_zero ?_ (fun a ha => by omega)
  rw [ev_cons, ev_nil, mul_zero, add_zero]
theorem refthrough_ev (xs ys : List G) (hd : xs.Nodup) (hl : xs.length = ys.length) (hx : xs.length < 1000000000) : Ev (fun k => footlockerref02_Through.f k (bs xs) (bs ys)) (bs (interp xs ys)) :=
 Ev.congr (fun k => footlockerref02_Through.f.eq_1 _ _ _) (refthrough_loops xs ys hd hl hx xs.length [] 0 (by omega) (by simp) rfl (fun j hj => by rw [if_neg (by omega)]; rfl))
end Go.Proofs.Ytndljfagojnidaa.Al
namespace Go.Proofs.Ytndljfagojnidaa.Al
open Go Go.RowKit Go.Proofs.YtndljfagojnidaaW.PrintWords Go.Proofs.YtndljfagojnidaaW.PrintMore Go.Proofs.Ytndljfagojnidaa.P
set_option linter.unusedVariables false
set_option linter.unusedSimpArgs false
def pl (i : Nat) : G := G.of ((i : Int) % 256)
theorem pl_i (i : Nat) : (i : Int) % 256 = (pl i).i := by rw [pl, i_of (by omega) (by omega)]
theorem pl_ne {a b : Nat} (hab : a < b) (hb : b < 256) : pl a ≠ pl b := by
 intro e
 have := congrArg G.i e
 rw [← pl_i, ← pl_i] at this
 omega
def places (n : Nat) : List G := tab n pl
theorem places_length (n : Nat) : (places n).length = n := tab_length n pl
theorem co_places {n i : Nat} (h : i < n) : co (places n) i = pl i := by rw [places, co_tab, if_pos h]
theorem places_nodup {n : Nat} (hn : n ≤ 256) : (places n).Nodup := by
 rw [nodup_co]
 intro a b hab hb
 rw [places_length] at hb
 rw [co_places (by omega), co_places hb]
 exact pl_ne hab (by omega)
def gen (d : List G) : List G := interp (places d.length) d
def vals (p : List G) (n : Nat) : List G := tab n (fun i => ev p (pl i))
theorem vals_length (p : List G) (n : Nat) : (vals p n).length = n := tab_length n _
theorem co_vals {p : List G} {n i : Nat} (h : i < n) : co (vals p n) i = ev p (pl i) := by rw [vals, co_tab, if_pos h]
def word (d : List G) (k : Nat) : List G := vals (gen d) (d.length + k)
def May (w : List G) (n : Int) : Prop := n ≥ 1 ∧ n ≤ w.length ∧ w.length ≤ 255
instance (w : List G) (n : Int) : Decidable (May w n) := inferInstanceAs (Decidable (_ ∧ _ ∧ _))
end Go.Proofs.Ytndljfagojnidaa.Al
namespace Go.Proofs.Ytndljfagojnidaa.Al
set_option linter.unusedVariables false
set_option linter.unusedSimpArgs false
def F (P : Nat → Bool) (m : Nat) : List Nat := (List.range m).filter P
theorem F_succ (P : Nat → Bool) (m : Nat) : F P (m + 1) = if P m = true then F P m ++ [m] else F P m := by
 unfold F
 rw [List.range_succ, List.filter_append]
 by_cases h : P m = true
 ·rw [if_pos h]; simp [h]
 ·rw [if_neg h]; simp [h]
theorem F_mem {P : Nat → Bool} {m i : Nat} : i ∈ F P m ↔ i < m ∧ P i = true := by
 unfold F
 rw [List.mem_filter, List.mem_range]
theorem F_nodup (P : Nat → Bool) (m : Nat) : (F P m).Nodup := List.Pairwise.filter _ List.nodup_range
theorem F_le (P : Nat → Bool) (m : Nat) : (F P m).length ≤ m := by
 induction m with
 | zero => exact Nat.le_refl _
 | succ m ih =>
  rw [F_succ]
  split
  ·simp; omega
  ·omega
theorem F_congr {P Q : Nat → Bool} {m : Nat} (h : ∀ i, i < m → P i = Q i) : F P m = F Q m := by
 induction m with
 | zero => rfl
 | succ m ih => rw [F_succ, F_succ, ih (fun i hi => h i (by omega)), h m (by omega)]
theorem F_split (P Q : Nat → Bool) (m : Nat) : (F P m).length = (F (fun i => P i && Q i) m).length + (F (fun i => P i && !Q i) m).length := by
 induction m with
 | zero => rfl
 | succ m ih =>
  rw [F_succ, F_succ, F_succ]
  cases h1 : P m <;> cases h2 : Q m <;> simp [h1, h2] <;> omega
theorem F_mono {P Q : Nat → Bool} {m : Nat} (h : ∀ i, i < m → P i = true → Q i = true) : (F P m).length ≤ (F Q m).length := by
 induction m with
 | zero => exact Nat.le_refl _
 | succ m ih =>
  have h1 := ih (fun i hi => h i (by omega))
  rw [F_succ, F_succ]
  by_cases hp : P m = true
  ·rw [if_pos hp, if_pos (h m (by omega) hp)]
   simp
   exact h1
  ·rw [if_neg hp]
   split
   ·simp; omega
   ·exact h1
def pls (P : Nat → Bool) (m : Nat) : List G := (F P m).map pl
theorem pls_length (P : Nat → Bool) (m : Nat) : (pls P m).length = (F P m).length := List.length_map _
theorem pl_inj {a b : Nat} (ha : a < 256) (hb : b < 256) (h : pl a = pl b) : a = b := by
 rcases Nat.lt_trichotomy a b with e | e | e
 ·exact absurd h (pl_ne e hb)
 ·exact e
 ·exact absurd h.symm (pl_ne e ha)
theorem pls_nodup (P : Nat → Bool) {m : Nat} (hm : m ≤ 256) : (pls P m).Nodup := by
 rw [pls, List.Nodup, List.pairwise_map]
 refine (F_nodup P m).imp_of_mem (fun {a b} ha hb hab he => hab (pl_inj ?_ ?_ he))
 ·have := (F_mem.1 ha).1; omega
 ·have := (F_mem.1 hb).1; omega
theorem same_at {p q : List G} {P : Nat → Bool} {m : Nat} (hm : m ≤ 256) (hp : p.length ≤ (F P m).length) (hq : q.length ≤ (F P m).length) (h : ∀ i, i < m → P i = true → ev p (pl i) = ev q (pl i)) (i : Nat) : co p i = co q i := by
 refine same_of_values (pls_nodup P hm) (by rw [pls_length]; exact hp) (by rw [pls_length]; exact hq) (fun x hx => ?_) i
 rw [pls, List.mem_map] at hx
 obtain ⟨j, hj, rfl⟩ := hx
 rw [F_mem] at hj
 exact h j hj.1 hj.2
def thr (t : List Bool) (i : Nat) : Bool := t.getD i false
def cnt (t : List Bool) (m : Nat) : Nat := (F (thr t) m).length
def wr (w v : List G) (t : List Bool) (m : Nat) : List Nat := F (fun i => thr t i && decide (co v i ≠ co w i)) m
def dis (w : List G) (t : List Bool) (p : List G) (m : Nat) : Nat := (F (fun i => thr t i && decide (ev p (pl i) ≠ co w i)) m).length
theorem agree (w : List G) (t : List Bool) (p : List G) (m : Nat) : cnt t m = (F (fun i => thr t i && decide (ev p (pl i) = co w i)) m).length + dis w t p m := by
 unfold cnt dis
 rw [F_split (thr t) (fun i => decide (ev p (pl i) = co w i))]
 congr 2
 apply F_congr
 intro i _
 simp
def Good (w : List G) (t : List Bool) (n : Nat) (p : List G) : Prop := p.length ≤ n ∧ 2 * dis w t p w.length + n ≤ cnt t w.length
theorem Good.unique {w : List G} {t : List Bool} {n : Nat} {p q : List G} (hw : w.length ≤ 255) (hp : Good w t n p) (hq : Good w t n q) (i : Nat) : co p i = co q i := by
 obtain ⟨p1, p2⟩ := hp
 obtain ⟨q1, q2⟩ := hq
 have h1 := agree w t p w.length
 have h3 := F_split (fun i => thr t i && decide (ev p (pl i) = co w i)) (fun i => decide (ev q (pl i) = co w i)) w.length
 have h4 : (F (fun i => (thr t i && decide (ev p (pl i) = co w i)) && !decide (ev q (pl i) = co w i)) w.length).length ≤ dis w t q w.length :=
  F_mono (fun i _ h => by simp at h ⊢; exact ⟨h.1.1, h.2⟩)
 refine same_at (P := fun i => (thr t i && decide (ev p (pl i) = co w i)) && decide (ev q (pl i) = co w i)) (m := w.length) (by omega) (by omega) (by omega) (fun j _ h => ?_) i
 simp at h
 rw [h.1.2, h.2]
theorem Good.vals {w : List G} {t : List Bool} {n : Nat} {p q : List G} (hw : w.length ≤ 255) (hp : Good w t n p) (hq : Good w t n q) : Al.vals p w.length = Al.vals q w.length ∧ dis w t p w.length = dis w t q w.length := by
 have h : ∀ x, ev p x = ev q x := ev_congr (Good.unique hw hp hq)
 refine ⟨?_, ?_⟩
 ·unfold Al.vals
  congr 1
  funext i
  exact h _
 ·unfold dis
  rw [F_congr (fun i _ => by rw [h])]
theorem Good.congr {w v : List G} {t : List Bool} {n : Nat} {p : List G} (hl : w.length = v.length) (h : ∀ i, i < w.length → thr t i = true → co w i = co v i) : Good w t n p ↔ Good v t n p := by
 unfold Good dis
 rw [← hl, F_congr (m := w.length) (P := fun i => thr t i && decide (ev p (pl i) ≠ co w i)) (Q := fun i => thr t i && decide (ev p (pl i) ≠ co v i)) (fun i hi => by
  cases ht : thr t i with
  | false => rfl
  | true => rw [h i hi ht])]
theorem Good.of_ev {w : List G} {t : List Bool} {n : Nat} {p q : List G} (hp : Good w t n p) (hq : q.length ≤ n) (h : ∀ x, ev p x = ev q x) : Good w t n q := by
 refine ⟨hq, ?_⟩
 have := hp.2
 unfold dis at this ⊢
 rw [F_congr (m := w.length) (P := fun i => thr t i && decide (ev q (pl i) ≠ co w i)) (Q := fun i => thr t i && decide (ev p (pl i) ≠ co w i)) (fun i _ => by rw [h])]
 exact this
def mo : List G → List G
 | [] => [1]
 | r :: rs => zadd (0 :: mo rs) (scale r (mo rs))
theorem mo_length (rs : List G) : (mo rs).length = rs.length + 1 := by
 induction rs with
 | nil => rfl
 | cons r rs ih => rw [mo, zadd_length, scale_length, List.length_cons, List.length_cons, ih]; omega
theorem mo_top (rs : List G) : co (mo rs) rs.length = 1 := by
 induction rs with
 | nil => rfl
 | cons r rs ih =>
  rw [mo, co_zadd, co_scale, List.length_cons, co_succ, ih, co_ge (p := mo rs) (by rw [mo_length]; omega), mul_zero, add_zero]
theorem mo_root (rs : List G) (x : G) (h : x ∈ rs) : ev (mo rs) x = 0 := by
 induction rs with
 | nil => simp at h
 | cons r rs ih =>
  rw [mo, ev_zadd, ev_scale, ev_cons, zero_add, ← add_mul]
  rcases List.mem_cons.1 h with e | e
  ·rw [e, add_self, zero_mul]
  ·rw [ih e, mul_zero]
theorem take_top {E : List G} {e : Nat} (hl : E.length = e + 1) (ht : co E e = 1) : E.take e ++ [1] = E := by
 apply ext_co
 ·rw [List.length_append, List.length_take, List.length_singleton]; omega
 ·intro i hi
  rw [co_append, List.length_take, Nat.min_eq_left (by omega), co_take]
  by_cases h : i < e
  ·rw [if_pos h, if_pos h]
  ·rw [if_neg h]
   have : i = e := by
    rw [List.length_append, List.length_take, List.length_singleton] at hi
    omega
   rw [this, Nat.sub_self, ht]
   rfl
theorem trim_monic (a : List G) : (trim (a ++ [1])).length = a.length + 1 := by
 apply trim_length_of
 ·intro j hj
  exact co_ge (by simp; omega)
 ·right
  rw [Nat.add_sub_cancel, co_append, if_neg (Nat.lt_irrefl _), Nat.sub_self]
  exact one_ne_zero
def Eqs (w : List G) (t : List Bool) (a q : List G) : Prop := ∀ i, i < w.length → thr t i = true → co w i * ev (a ++ [1]) (pl i) = ev q (pl i)
theorem eqs_exist {w : List G} {t : List Bool} {n e : Nat} {p : List G} (hp : p.length ≤ n) (hd : dis w t p w.length ≤ e) : ∃ a q : List G, a.length = e ∧ q.length = n + e ∧ Eqs w t a q := by
 obtain ⟨rs, hrs⟩ : ∃ rs, rs = pls (fun i => thr t i && decide (ev p (pl i) ≠ co w i)) w.length ++ List.replicate (e - dis w t p w.length) 0 := ⟨_, rfl⟩
 have hl : rs.length = e := by
  rw [hrs, List.length_append, pls_length, List.length_replicate]
  unfold dis at hd ⊢
  omega
 refine ⟨(mo rs).take e, tab (n + e) (co (pmul p (mo rs))), by rw [List.length_take, mo_length]; omega, tab_length _ _, ?_⟩
 intro i hi ht
 rw [take_top (by rw [mo_length, hl]) (by rw [← hl]; exact mo_top rs)]
 have hq : ∀ j, co (tab (n + e) (co (pmul p (mo rs)))) j = co (pmul p (mo rs)) j := by
  intro j
  rw [co_tab]
  by_cases h : j < n + e
  ·rw [if_pos h]
  ·rw [if_neg h]
   have h1 := pmul_len_le p (mo rs) (by rw [mo_length]; omega)
   rw [mo_length, hl] at h1
   rw [co_ge (by omega)]
 rw [ev_congr hq, ev_pmul]
 by_cases h : ev p (pl i) = co w i
 ·rw [h]
 ·rw [mo_root rs (pl i) (by
   rw [hrs]
   apply List.mem_append_left
   rw [pls, List.mem_map]
   refine ⟨i, ?_, rfl⟩
   rw [F_mem]
   exact ⟨hi, by simp [ht, h]⟩), mul_zero, mul_zero]
theorem eqs_only {w : List G} {t : List Bool} {n e : Nat} {p a q : List G} (hw : w.length ≤ 255) (hp : p.length ≤ n) (hn : 0 < n) (hd : dis w t p w.length ≤ e) (hc : 2 * e + n ≤ cnt t w.length) (ha : a.length = e) (hq : q.length = n + e) (h : Eqs w t a q) (j : Nat) :
 co q j = co (pmul p (a ++ [1])) j := by
 have h1 := agree w t p w.length
 have h2 := pmul_len_le p (a ++ [1]) (by simp)
 rw [List.length_append, List.length_singleton, ha] at h2
 refine same_at (P := fun i => thr t i && decide (ev p (pl i) = co w i)) (m := w.length) (by omega) (by omega) (by omega) (fun i hi hP => ?_) j
 simp at hP
 rw [ev_pmul, hP.2, h i hi hP.1]
theorem div_only {q E p u r : List G} {e : Nat} (hE : (trim E).length = e + 1) (hu : trim u = u) (hr : trim r = r) (hrl : r.length ≤ e) (h : ∀ m, co q m = co r m + co (pmul u E) m) (hp : ∀ m, co q m = co (pmul p E) m) : u = trim p ∧ r = [] := by
 have h1 : ∀ m, co (pmul (zadd u p) E) m = co r m := by
  intro m
  have e1 : co (pmul (zadd u p) E) m = co (pmul u E) m + co (pmul p E) m := by
   rw [co_pmul, co_pmul, co_pmul, ← sum_add]
   apply sum_congr
   intro j _
   rw [co_zadd, add_mul]
  rw [e1, ← hp, h, ← add_assoc, add_comm (co (pmul u E) m), add_assoc, add_self, add_zero]
 have hz : trim (zadd u p) = [] := by
  cases hl : (trim (zadd u p)).length with
  | zero => exact List.eq_nil_of_length_eq_zero hl
  | succ a =>
   exfalso
   have h2 := co_pmul_top (p := zadd u p) (q := E) (a := a) (b := e) (fun i hi => trim_ge (by omega)) (fun i hi => trim_ge (by omega))
   rw [h1, co_ge (by omega)] at h2
   exact mul_ne_zero (trim_last hl) (trim_last hE) h2.symm
 have hco := of_trim_nil hz
 refine ⟨?_, ?_⟩
 ·rw [← hu]
  apply trim_congr
  intro i
  have := hco i
  rw [co_zadd] at this
  exact add_eq_zero.1 this
 ·rw [← hr]
  apply trim_eq_nil
  intro i
  rw [← h1, co_pmul]
  apply sum_eq_zero
  intro j _
  rw [hco, zero_mul]
theorem ev_pad (p : List G) (k : Nat) (x : G) : ev (p ++ List.replicate k 0) x = ev p x := by
 apply ev_congr
 intro i
 rw [co_append]
 by_cases h : i < p.length
 ·rw [if_pos h]
 ·rw [if_neg h, co_replicate, co_ge (by omega)]
end Go.Proofs.Ytndljfagojnidaa.Al
namespace Go.Proofs.Ytndljfagojnidaa.Al
set_option linter.unusedVariables false
set_option linter.unusedSimpArgs false
theorem sum_swap (g : Nat → Nat → G) (m n : Nat) : sum (fun j => sum (fun i => g i j) m) n = sum (fun i => sum (fun j => g i j) n) m := by
 induction n with
 | zero => rw [sum_zero, sum_eq_zero]; intro i _; rfl
 | succ n ih =>
  rw [sum_succ, ih, ← sum_add]
  rfl
theorem sum_split (f : Nat → G) (n m : Nat) : sum f (n + m) = sum f n + sum (fun j => f (n + j)) m := by
 induction m with
 | zero => rw [sum_zero, add_zero]; rfl
 | succ m ih =>
  show sum f (n + m + 1) = _
  rw [sum_succ, sum_succ, ih, add_assoc]
theorem sum_mul_right (c : G) (f : Nat → G) (n : Nat) : sum (fun i => f i * c) n = sum f n * c := by
 rw [mul_comm, ← sum_mul]
 apply sum_congr
 intro i _
 rw [mul_comm]
def row (M : List (List G)) (i : Nat) : List G := M.getD i []
theorem row_lt {M : List (List G)} {i : Nat} (h : i < M.length) : row M i = M[i] := by
 simp [row, List.getD_eq_getElem?_getD, List.getElem?_eq_getElem h]
theorem row_ge {M : List (List G)} {i : Nat} (h : M.length ≤ i) : row M i = [] := by
 simp [row, List.getD_eq_getElem?_getD, List.getElem?_eq_none h]
theorem row_set (M : List (List G)) (n i : Nat) (r : List G) (h : n < M.length) : row (M.set n r) i = if i = n then r else row M i := by
 simp only [row, List.getD_eq_getElem?_getD, List.getElem?_set]
 by_cases e : n = i
 ·subst e
  simp [h]
 ·simp [e, Ne.symm e]
theorem row_drop (M : List (List G)) (n i : Nat) : row (M.drop n) i = row M (n + i) := by
 simp only [row, List.getD_eq_getElem?_getD, List.getElem?_drop]
theorem ext_row {M N : List (List G)} (hl : M.length = N.length) (h : ∀ i, i < M.length → row M i = row N i) : M = N := by
 apply List.ext_getElem hl
 intro i h1 h2
 have := h i h1
 rwa [row_lt h1, row_lt h2] at this
def tabR (n : Nat) (f : Nat → List G) : List (List G) := (List.range n).map f
theorem tabR_length (n : Nat) (f : Nat → List G) : (tabR n f).length = n := by simp [tabR]
theorem row_tabR (n : Nat) (f : Nat → List G) (i : Nat) (h : i < n) : row (tabR n f) i = f i := by
 rw [row_lt (by rw [tabR_length]; exact h)]
 simp [tabR]
def Wd (M : List (List G)) (w : Nat) : Prop := ∀ i, i < M.length → (row M i).length = w
def Sp (M : List (List G)) (v : Nat → G) : Prop := ∃ f : Nat → G, ∀ j, v j = sum (fun i => f i * co (row M i) j) M.length
theorem Sp.zero (M : List (List G)) : Sp M (fun _ => 0) := ⟨fun _ => 0, fun j => by rw [sum_eq_zero]; intro i _; rw [zero_mul]⟩
theorem Sp.congr {M : List (List G)} {v w : Nat → G} (hv : Sp M v) (h : ∀ j, v j = w j) : Sp M w := by
 obtain ⟨f, hf⟩ := hv
 exact ⟨f, fun j => by rw [← h, hf]⟩
theorem Sp.add {M : List (List G)} {v w : Nat → G} (hv : Sp M v) (hw : Sp M w) : Sp M (fun j => v j + w j) := by
 obtain ⟨f, hf⟩ := hv
 obtain ⟨g, hg⟩ := hw
 refine ⟨fun i => f i + g i, fun j => ?_⟩
 dsimp only
 rw [hf, hg, ← sum_add]
 apply sum_congr
 intro i _
 rw [add_mul]
theorem Sp.mul {M : List (List G)} {v : Nat → G} (c : G) (hv : Sp M v) : Sp M (fun j => c * v j) := by
 obtain ⟨f, hf⟩ := hv
 refine ⟨fun i => c * f i, fun j => ?_⟩
 dsimp only
 rw [hf, ← sum_mul]
 apply sum_congr
 intro i _
 rw [mul_assoc]
theorem Sp.row {M : List (List G)} {i : Nat} (h : i < M.length) : Sp M (co (row M i)) := by
 refine ⟨fun k => if k = i then 1 else 0, fun j => ?_⟩
 rw [sum_single (k := i) h]
 ·dsimp only
  rw [if_pos rfl, one_mul]
 ·intro k _ hk
  dsimp only
  rw [if_neg hk, zero_mul]
theorem Sp.sums {M : List (List G)} (f : Nat → G) (r : Nat → Nat → G) (n : Nat) (h : ∀ i, i < n → Sp M (r i)) : Sp M (fun j => sum (fun i => f i * r i j) n) := by
 induction n with
 | zero => exact Sp.zero M
 | succ n ih => exact ((ih (fun i hi => h i (by omega))).add ((h n (by omega)).mul (f n))).congr (fun j => rfl)
theorem Sp.le {M N : List (List G)} (h : ∀ i, i < N.length → Sp M (co (Al.row N i))) {v : Nat → G} (hv : Sp N v) : Sp M v := by
 obtain ⟨f, hf⟩ := hv
 exact (Sp.sums f (fun i => co (Al.row N i)) N.length h).congr (fun j => (hf j).symm)
def dt (n : Nat) (v x : Nat → G) : G := sum (fun j => v j * x j) n
theorem dt_congr {n : Nat} {v w x y : Nat → G} (h : ∀ j, j < n → v j = w j) (h2 : ∀ j, j < n → x j = y j) : dt n v x = dt n w y :=
 sum_congr (fun j hj => by rw [h j hj, h2 j hj])
theorem dt_zero {n : Nat} {v x : Nat → G} (h : ∀ j, j < n → v j = 0 ∨ x j = 0) : dt n v x = 0 :=
 sum_eq_zero (fun j hj => (h j hj).elim (fun e => by rw [e, zero_mul]) (fun e => by rw [e, mul_zero]))
def Ker (M : List (List G)) (n : Nat) (z : Nat → G) : Prop := ∀ i, i < M.length → dt n (co (row M i)) z = 0
theorem Ker.span {M : List (List G)} {n : Nat} {z : Nat → G} (h : Ker M n z) {v : Nat → G} (hv : Sp M v) : dt n v z = 0 := by
 obtain ⟨f, hf⟩ := hv
 have h1 : dt n v z = sum (fun j => sum (fun i => f i * (co (row M i) j * z j)) M.length) n := by
  unfold dt
  apply sum_congr
  intro j _
  rw [hf, ← sum_mul_right]
  apply sum_congr
  intro i _
  rw [mul_assoc]
 rw [h1, sum_swap, sum_eq_zero]
 intro i hi
 rw [sum_mul]
 have := h i hi
 unfold dt at this
 rw [this, mul_zero]
theorem Ker.of_span {M N : List (List G)} (h : ∀ v, Sp N v → Sp M v) {n : Nat} {z : Nat → G} (hk : Ker M n z) : Ker N n z :=
 fun i hi => hk.span (h _ (Sp.row hi))
def swp (M : List (List G)) (a u k : Nat) : List G := if k = a then row M u else if k = u then row M a else row M k
def piv (M : List (List G)) (c u : Nat) : List G := scale (inv (co (row M u) c)) (row M u)
def elim (M : List (List G)) (a c u : Nat) : List (List G) := tabR M.length (fun k => if k = a then piv M c u else zadd (swp M a u k) (scale (co (swp M a u k) c) (piv M c u)))
theorem elim_length (M : List (List G)) (a c u : Nat) : (elim M a c u).length = M.length := tabR_length _ _
theorem row_elim {M : List (List G)} {a c u k : Nat} (h : k < M.length) : row (elim M a c u) k = if k = a then piv M c u else zadd (swp M a u k) (scale (co (swp M a u k) c) (piv M c u)) := row_tabR _ _ _ h
theorem co_piv (M : List (List G)) (c u j : Nat) : co (piv M c u) j = inv (co (row M u) c) * co (row M u) j := co_scale _ _ _
theorem co_elim_at {M : List (List G)} {a c u : Nat} (h : a < M.length) (j : Nat) : co (row (elim M a c u) a) j = co (piv M c u) j := by rw [row_elim h, if_pos rfl]
theorem co_elim {M : List (List G)} {a c u k : Nat} (h : k < M.length) (hk : k ≠ a) (j : Nat) : co (row (elim M a c u) k) j = co (swp M a u k) j + co (swp M a u k) c * co (piv M c u) j := by
 rw [row_elim h, if_neg hk, co_zadd, co_scale]
theorem swp_width {M : List (List G)} {w a u k : Nat} (hw : Wd M w) (ha : a < M.length) (hu : u < M.length) (hk : k < M.length) : (swp M a u k).length = w := by
 unfold swp
 split
 ·exact hw u hu
 ·split
  ·exact hw a ha
  ·exact hw k hk
theorem elim_width {M : List (List G)} {w a c u : Nat} (hw : Wd M w) (ha : a < M.length) (hu : u < M.length) : Wd (elim M a c u) w := by
 intro k hk
 rw [elim_length] at hk
 rw [row_elim hk]
 have hp : (piv M c u).length = w := by rw [piv, scale_length]; exact hw u hu
 split
 ·exact hp
 ·rw [zadd_length, scale_length, hp, swp_width hw ha hu hk]
  omega
theorem swp_span {M : List (List G)} {a u k : Nat} (ha : a < M.length) (hu : u < M.length) (hk : k < M.length) : Sp M (co (swp M a u k)) := by
 unfold swp
 split
 ·exact Sp.row hu
 ·split
  ·exact Sp.row ha
  ·exact Sp.row hk
theorem elim_span {M : List (List G)} {a c u : Nat} (ha : a < M.length) (hu : u < M.length) (hp : co (row M u) c ≠ 0) (v : Nat → G) : Sp (elim M a c u) v ↔ Sp M v := by
 have hpiv : Sp M (co (piv M c u)) := ((Sp.row hu).mul (inv (co (row M u) c))).congr (fun j => (co_piv M c u j).symm)
 have ha' : a < (elim M a c u).length := by rw [elim_length]; exact ha
 have hpe : Sp (elim M a c u) (co (piv M c u)) := (Sp.row ha').congr (fun j => co_elim_at ha j)
 have hsw : ∀ k, k < M.length → k ≠ a → Sp (elim M a c u) (co (swp M a u k)) := by
  intro k hk hka
  refine ((Sp.row (M := elim M a c u) (i := k) (by rw [elim_length]; exact hk)).add (hpe.mul (co (swp M a u k) c))).congr (fun j => ?_)
  rw [co_elim hk hka, add_assoc, add_self, add_zero]
 have hru : Sp (elim M a c u) (co (row M u)) := by
  refine (hpe.mul (co (row M u) c)).congr (fun j => ?_)
  rw [co_piv, ← mul_assoc, mul_inv hp, one_mul]
 constructor
 ·refine Sp.le (fun k hk => ?_)
  rw [elim_length] at hk
  by_cases hka : k = a
  ·rw [hka]
   exact hpiv.congr (fun j => (co_elim_at ha j).symm)
  ·exact ((swp_span ha hu hk).add (hpiv.mul (co (swp M a u k) c))).congr (fun j => (co_elim hk hka j).symm)
 ·refine Sp.le (fun k hk => ?_)
  by_cases hku : k = u
  ·rw [hku]
   exact hru
  ·by_cases hka : k = a
   ·have h := hsw u hu (fun e => hku (by rw [hka, e]))
    have e : swp M a u u = row M k := by
     unfold swp
     rw [if_neg (fun e => hku (by rw [hka, e])), if_pos rfl, hka]
    rwa [e] at h
   ·have h := hsw k hk hka
    have e : swp M a u k = row M k := by
     unfold swp
     rw [if_neg hka, if_neg hku]
    rwa [e] at h
structure RF (M : List (List G)) (ps : List Nat) (c : Nat) : Prop where
 len : ps.length ≤ M.length
 lt : ∀ t, t < ps.length → ps.getD t 0 < c
 asc : ∀ s t, s < t → t < ps.length → ps.getD s 0 < ps.getD t 0
 unit : ∀ i t, i < M.length → t < ps.length → co (row M i) (ps.getD t 0) = if i = t then 1 else 0
 low : ∀ i j, ps.length ≤ i → i < M.length → j < c → co (row M i) j = 0
 lead : ∀ t j, t < ps.length → j < ps.getD t 0 → co (row M t) j = 0
theorem RF.start (M : List (List G)) : RF M [] 0 where
 len := Nat.zero_le _
 lt := fun t h => absurd h (Nat.not_lt_zero _)
 asc := fun s t _ h => absurd h (Nat.not_lt_zero _)
 unit := fun i t _ h => absurd h (Nat.not_lt_zero _)
 low := fun i j _ _ h => absurd h (Nat.not_lt_zero _)
 lead := fun t j h => absurd h (Nat.not_lt_zero _)
theorem RF.skip {M : List (List G)} {ps : List Nat} {c : Nat} (h : RF M ps c) (hz : ∀ i, ps.length ≤ i → i < M.length → co (row M i) c = 0) : RF M ps (c + 1) where
 len := h.len
 lt := fun t ht => Nat.lt_succ_of_lt (h.lt t ht)
 asc := h.asc
 unit := h.unit
 low := fun i j hi hi2 hj => by
  by_cases e : j = c
  ·rw [e]; exact hz i hi hi2
  ·exact h.low i j hi hi2 (by omega)
 lead := h.lead
theorem getD_snoc (ps : List Nat) (c t : Nat) : (ps ++ [c]).getD t 0 = if t < ps.length then ps.getD t 0 else if t = ps.length then c else 0 := by
 simp only [List.getD_eq_getElem?_getD, List.getElem?_append]
 by_cases h : t < ps.length
 ·rw [if_pos h, if_pos h]
 ·rw [if_neg h, if_neg h]
  by_cases e : t = ps.length
  ·rw [if_pos e, e]; simp
  ·rw [if_neg e, List.getElem?_eq_none (by simp; omega)]; rfl
theorem RF.step {M : List (List G)} {ps : List Nat} {c u : Nat} (h : RF M ps c) (hu : ps.length ≤ u) (hu2 : u < M.length) (hp : co (row M u) c ≠ 0) : RF (elim M ps.length c u) (ps ++ [c]) (c + 1) := by
 have ha : ps.length < M.length := by omega
 have hpz : ∀ j, j < c → co (piv M c u) j = 0 := fun j hj => by rw [co_piv, h.low u j hu hu2 hj, mul_zero]
 have hpc : co (piv M c u) c = 1 := by rw [co_piv, inv_mul hp]
 have hsl : ∀ k, ps.length < k → k < M.length → ∀ j, j < c → co (swp M ps.length u k) j = 0 := by
  intro k hk hk2 j hj
  unfold swp
  rw [if_neg (by omega)]
  split
  ·exact h.low _ j (Nat.le_refl _) ha hj
  ·exact h.low _ j (by omega) hk2 hj
 have hsk : ∀ k, k < ps.length → swp M ps.length u k = row M k := by
  intro k hk
  unfold swp
  rw [if_neg (by omega), if_neg (by omega)]
 have hcol : ∀ i, i < M.length → co (row (elim M ps.length c u) i) c = if i = ps.length then 1 else 0 := by
  intro i hi
  by_cases e : i = ps.length
  ·rw [if_pos e, e, co_elim_at ha, hpc]
  ·rw [if_neg e, co_elim hi e, hpc, mul_one, add_self]
 have hbel : ∀ i j, i < M.length → j < c → co (row (elim M ps.length c u) i) j = if i < ps.length then co (row M i) j else 0 := by
  intro i j hi hj
  by_cases e : i = ps.length
  ·rw [e, co_elim_at ha, hpz j hj, if_neg (Nat.lt_irrefl _)]
  ·rw [co_elim hi e, hpz j hj, mul_zero, add_zero]
   by_cases hlt : i < ps.length
   ·rw [if_pos hlt, hsk i hlt]
   ·rw [if_neg hlt, hsl i (by omega) hi j hj]
 have hget : ∀ t, t < ps.length → (ps ++ [c]).getD t 0 = ps.getD t 0 := fun t ht => by rw [getD_snoc, if_pos ht]
 have hend : (ps ++ [c]).getD ps.length 0 = c := by rw [getD_snoc, if_neg (Nat.lt_irrefl _), if_pos rfl]
 have hl : (ps ++ [c]).length = ps.length + 1 := by simp
 constructor
 ·rw [hl, elim_length]; omega
 ·intro t ht
  rw [hl] at ht
  by_cases e : t = ps.length
  ·rw [e, hend]; omega
  ·rw [hget t (by omega)]
   have := h.lt t (by omega)
   omega
 ·intro s t hst ht
  rw [hl] at ht
  rw [hget s (by omega)]
  by_cases e : t = ps.length
  ·rw [e, hend]
   exact h.lt s (by omega)
  ·rw [hget t (by omega)]
   exact h.asc s t hst (by omega)
 ·intro i t hi ht
  rw [hl] at ht
  rw [elim_length] at hi
  by_cases e : t = ps.length
  ·rw [e, hend, hcol i hi]
  ·rw [hget t (by omega), hbel i _ hi (h.lt t (by omega))]
   by_cases hlt : i < ps.length
   ·rw [if_pos hlt, h.unit i t hi (by omega)]
   ·rw [if_neg hlt, if_neg (by omega)]
 ·intro i j hi hi2 hj
  rw [hl] at hi
  rw [elim_length] at hi2
  by_cases e : j = c
  ·rw [e, hcol i hi2, if_neg (by omega)]
  ·rw [hbel i j hi2 (by omega), if_neg (by omega)]
 ·intro t j ht hj
  rw [hl] at ht
  by_cases e : t = ps.length
  ·rw [e, hend] at hj
   rw [e, hbel _ j ha hj, if_neg (Nat.lt_irrefl _)]
  ·rw [hget t (by omega)] at hj
   have := h.lt t (by omega)
   rw [hbel t j (by omega) (by omega), if_pos (by omega)]
   exact h.lead t j (by omega) hj
def fnd (M : List (List G)) (a c : Nat) : Nat := a + (M.drop a).findIdx (fun r => decide (co r c ≠ 0))
theorem fnd_le (M : List (List G)) (a c : Nat) : a ≤ fnd M a c := Nat.le_add_right _ _
theorem fnd_at {M : List (List G)} {a c : Nat} (h : fnd M a c < M.length) : co (row M (fnd M a c)) c ≠ 0 := by
 have hlt : (M.drop a).findIdx (fun r => decide (co r c ≠ 0)) < (M.drop a).length := by
  rw [List.length_drop]
  unfold fnd at h
  omega
 have h2 := List.findIdx_getElem (w := hlt)
 rw [← row_lt hlt, row_drop] at h2
 exact of_decide_eq_true h2
theorem fnd_before {M : List (List G)} {a c i : Nat} (ha : a ≤ i) (hi : i < fnd M a c) : co (row M i) c = 0 := by
 have hlt : i - a < (M.drop a).findIdx (fun r => decide (co r c ≠ 0)) := by
  unfold fnd at hi
  omega
 have hle := List.findIdx_le_length (p := fun r => decide (co r c ≠ 0)) (xs := M.drop a)
 have h2 := List.not_of_lt_findIdx hlt
 rw [← row_lt, row_drop, show a + (i - a) = i by omega] at h2
 simpa using h2
def red : Nat → List (List G) → List Nat → Nat → List (List G) × List Nat
 | 0, M, ps, _ => (M, ps)
 | d + 1, M, ps, c => if fnd M ps.length c < M.length then red d (elim M ps.length c (fnd M ps.length c)) (ps ++ [c]) (c + 1) else red d M ps (c + 1)
theorem red_facts (d : Nat) : ∀ (M : List (List G)) (ps : List Nat) (c : Nat), RF M ps c →
 RF (red d M ps c).1 (red d M ps c).2 (c + d) ∧ (red d M ps c).1.length = M.length ∧ (∀ w, Wd M w → Wd (red d M ps c).1 w) ∧ ∀ v, Sp (red d M ps c).1 v ↔ Sp M v := by
 induction d with
 | zero => exact fun M ps c h => ⟨h, rfl, fun w hw => hw, fun v => Iff.rfl⟩
 | succ d ih =>
  intro M ps c h
  unfold red
  by_cases hf : fnd M ps.length c < M.length
  ·rw [if_pos hf]
   have hp := fnd_at hf
   have hle := fnd_le M ps.length c
   obtain ⟨h1, h2, h3, h4⟩ := ih _ _ _ (h.step hle hf hp)
   refine ⟨by rw [show c + (d + 1) = c + 1 + d by omega]; exact h1, by rw [h2, elim_length], fun w hw => h3 w (elim_width hw (by omega) hf), fun v => (h4 v).trans (elim_span (by omega) hf hp v)⟩
  ·rw [if_neg hf]
   obtain ⟨h1, h2, h3, h4⟩ := ih _ _ _ (h.skip (fun i hi hi2 => fnd_before hi (by omega)))
   exact ⟨by rw [show c + (d + 1) = c + 1 + d by omega]; exact h1, h2, h3, h4⟩
def reduce (M : List (List G)) (n : Nat) : List (List G) × List Nat := red n M [] 0
theorem reduce_RF (M : List (List G)) (n : Nat) : RF (reduce M n).1 (reduce M n).2 n := by
 have := (red_facts n M [] 0 (RF.start M)).1
 rwa [Nat.zero_add] at this
theorem reduce_length (M : List (List G)) (n : Nat) : (reduce M n).1.length = M.length := (red_facts n M [] 0 (RF.start M)).2.1
theorem reduce_width {M : List (List G)} {w : Nat} (n : Nat) (h : Wd M w) : Wd (reduce M n).1 w := (red_facts n M [] 0 (RF.start M)).2.2.1 w h
theorem reduce_span (M : List (List G)) (n : Nat) (v : Nat → G) : Sp (reduce M n).1 v ↔ Sp M v := (red_facts n M [] 0 (RF.start M)).2.2.2 v
theorem RF.coords {R : List (List G)} {ps : List Nat} {c : Nat} (h : RF R ps c) {v : Nat → G} (hv : Sp R v) {j : Nat} (hj : j < c) :
 v j = sum (fun t => v (ps.getD t 0) * co (row R t) j) ps.length := by
 obtain ⟨f, hf⟩ := hv
 have h1 : ∀ t, t < ps.length → v (ps.getD t 0) = f t := by
  intro t ht
  have hl := h.len
  rw [hf, sum_single (k := t) (by omega)]
  ·rw [h.unit t t (by omega) ht, if_pos rfl, mul_one]
  ·intro i hi hne
   rw [h.unit i t hi ht, if_neg hne, mul_zero]
 rw [hf, sum_extend h.len (fun i h1 h2 => by rw [h.low i j h1 h2 hj, mul_zero])]
 apply sum_congr
 intro t ht
 rw [h1 t ht]
def Ld (M : List (List G)) (j : Nat) : Prop := ∃ v, Sp M v ∧ (∀ i, i < j → v i = 0) ∧ v j ≠ 0
theorem RF.mem {R : List (List G)} {ps : List Nat} {c : Nat} (h : RF R ps c) {j : Nat} (hj : j < c) : Ld R j ↔ ∃ t, t < ps.length ∧ ps.getD t 0 = j := by
 constructor
 ·rintro ⟨v, hv, hz, hne⟩
  apply Classical.byContradiction
  intro hno
  apply hne
  rw [h.coords hv hj]
  apply sum_eq_zero
  intro t ht
  rcases Nat.lt_trichotomy (ps.getD t 0) j with e | e | e
  ·rw [hz _ e, zero_mul]
  ·exact absurd ⟨t, ht, e⟩ hno
  ·rw [h.lead t j ht e, mul_zero]
 ·rintro ⟨t, ht, rfl⟩
  have hl := h.len
  refine ⟨co (row R t), Sp.row (by omega), fun i hi => h.lead t i ht hi, ?_⟩
  rw [h.unit t t (by omega) ht, if_pos rfl]
  exact one_ne_zero
theorem asc_eq {ps qs : List Nat} (hp : ∀ s t, s < t → t < ps.length → ps.getD s 0 < ps.getD t 0) (hq : ∀ s t, s < t → t < qs.length → qs.getD s 0 < qs.getD t 0)
 (h : ∀ j, (∃ t, t < ps.length ∧ ps.getD t 0 = j) ↔ ∃ t, t < qs.length ∧ qs.getD t 0 = j) : ps = qs := by
 have key : ∀ (as0 bs : List Nat), (∀ s t, s < t → t < as0.length → as0.getD s 0 < as0.getD t 0) → (∀ s t, s < t → t < bs.length → bs.getD s 0 < bs.getD t 0) →
  (∀ j, (∃ t, t < as0.length ∧ as0.getD t 0 = j) ↔ ∃ t, t < bs.length ∧ bs.getD t 0 = j) → ∀ t, t < as0.length → (∀ s, s < t → as0.getD s 0 = bs.getD s 0) → t < bs.length ∧ bs.getD t 0 ≤ as0.getD t 0 := by
  intro as0 bs ha hb hab t ht hs
  obtain ⟨s, h1, h2⟩ := (hab (as0.getD t 0)).1 ⟨t, ht, rfl⟩
  rcases Nat.lt_trichotomy s t with e | e | e
  ·have h3 := ha s t e ht
   have h4 := hs s e
   omega
  ·rw [← e]
   exact ⟨h1, by rw [h2, e]; exact Nat.le_refl _⟩
  ·have := hb t s e h1
   exact ⟨by omega, by omega⟩
 have all : ∀ t, (t < ps.length ↔ t < qs.length) ∧ (t < ps.length → ps.getD t 0 = qs.getD t 0) := by
  intro t
  induction t using Nat.strongRecOn with
  | _ t ih =>
   have hpq : t < ps.length → t < qs.length ∧ qs.getD t 0 ≤ ps.getD t 0 := fun ht => key ps qs hp hq h t ht (fun s hs => (ih s hs).2 (by omega))
   have hqp : t < qs.length → t < ps.length ∧ ps.getD t 0 ≤ qs.getD t 0 := fun ht => key qs ps hq hp (fun j => (h j).symm) t ht (fun s hs => ((ih s hs).2 ((ih s hs).1.2 (by omega))).symm)
   refine ⟨⟨fun ht => (hpq ht).1, fun ht => (hqp ht).1⟩, fun ht => ?_⟩
   have h1 := hpq ht
   have h2 := hqp h1.1
   omega
 have hl : ps.length = qs.length := by
  rcases Nat.lt_trichotomy ps.length qs.length with e | e | e
  ·have := (all ps.length).1.2 e
   omega
  ·exact e
  ·have := (all qs.length).1.1 e
   omega
 apply List.ext_getElem hl
 intro i h1 h2
 have := (all i).2 h1
 simpa [List.getD_eq_getElem?_getD, List.getElem?_eq_getElem h1, List.getElem?_eq_getElem h2] using this
theorem pivots_eq {R S : List (List G)} {ps qs : List Nat} {c : Nat} (h1 : RF R ps c) (h2 : RF S qs c) (h : ∀ j, j < c → (Ld R j ↔ Ld S j)) : ps = qs := by
 apply asc_eq h1.asc h2.asc
 intro j
 constructor
 ·rintro ⟨t, ht, rfl⟩
  have hj := h1.lt t ht
  exact (h2.mem hj).1 ((h _ hj).1 ((h1.mem hj).2 ⟨t, ht, rfl⟩))
 ·rintro ⟨t, ht, rfl⟩
  have hj := h2.lt t ht
  exact (h1.mem hj).1 ((h _ hj).2 ((h2.mem hj).2 ⟨t, ht, rfl⟩))
theorem Ld.of {M N : List (List G)} (h : ∀ v, Sp M v → Sp N v) {j : Nat} (hl : Ld M j) : Ld N j := by
 obtain ⟨v, h1, h2⟩ := hl
 exact ⟨v, h v h1, h2⟩
theorem asc_ge {ps : List Nat} (hp : ∀ s t, s < t → t < ps.length → ps.getD s 0 < ps.getD t 0) : ∀ t, t < ps.length → t ≤ ps.getD t 0 := by
 intro t
 induction t with
 | zero => intro _; exact Nat.zero_le _
 | succ t ih =>
  intro ht
  have h1 := ih (by omega)
  have h2 := hp t (t + 1) (by omega) ht
  omega
theorem RF.le {R : List (List G)} {ps : List Nat} {c : Nat} (h : RF R ps c) : ps.length ≤ c := by
 rcases Nat.eq_zero_or_pos ps.length with e | e
 ·omega
 ·have h1 := asc_ge h.asc (ps.length - 1) (by omega)
  have h2 := h.lt (ps.length - 1) (by omega)
  omega
theorem RF.unique {R S : List (List G)} {ps qs : List Nat} {c : Nat} (h1 : RF R ps c) (h2 : RF S qs c) (hs : ∀ v, Sp R v ↔ Sp S v) (hw : Wd R c) (hw2 : Wd S c) (hl : R.length = S.length) : R = S ∧ ps = qs := by
 have hp : ps = qs := pivots_eq h1 h2 (fun j _ => ⟨Ld.of (fun v => (hs v).1), Ld.of (fun v => (hs v).2)⟩)
 subst hp
 refine ⟨ext_row hl (fun i hi => ?_), rfl⟩
 apply ext_co
 ·rw [hw i hi, hw2 i (by omega)]
 ·intro j hj
  rw [hw i hi] at hj
  by_cases hi2 : i < ps.length
  ·rw [h2.coords ((hs _).1 (Sp.row hi)) hj, sum_single (k := i) hi2]
   ·rw [h1.unit i i hi hi2, if_pos rfl, one_mul]
   ·intro t ht hne
    rw [h1.unit i t hi ht, if_neg (fun e => hne e.symm), zero_mul]
  ·rw [h1.low i j (by omega) hi hj, h2.low i j (by omega) (by omega) hj]
end Go.Proofs.Ytndljfagojnidaa.Al
namespace Go.Proofs.Ytndljfagojnidaa.Al
set_option linter.unusedVariables false
set_option linter.unusedSimpArgs false
def tms (M : List (List G)) (x : List G) : List G := tab M.length (fun i => dt (min (row M i).length x.length) (co (row M i)) (co x))
theorem tms_length (M : List (List G)) (x : List G) : (tms M x).length = M.length := tab_length _ _
theorem co_tms {M : List (List G)} {x : List G} {w i : Nat} (hw : Wd M w) (hx : x.length = w) (hi : i < M.length) : co (tms M x) i = dt w (co (row M i)) (co x) := by
 rw [tms, co_tab, if_pos hi, hw i hi, hx, Nat.min_self]
theorem tms_iff {M : List (List G)} {x b : List G} {w : Nat} (hw : Wd M w) (hx : x.length = w) (hb : b.length = M.length) : tms M x = b ↔ ∀ i, i < M.length → dt w (co (row M i)) (co x) = co b i := by
 constructor
 ·rintro rfl i hi
  rw [co_tms hw hx hi]
 ·intro h
  apply ext_co
  ·rw [tms_length, hb]
  ·intro i hi
   rw [tms_length] at hi
   rw [co_tms hw hx hi, h i hi]
def aug (M : List (List G)) (b : List G) : List (List G) := tabR M.length (fun i => row M i ++ [co b i])
theorem aug_length (M : List (List G)) (b : List G) : (aug M b).length = M.length := tabR_length _ _
theorem row_aug {M : List (List G)} {b : List G} {i : Nat} (h : i < M.length) : row (aug M b) i = row M i ++ [co b i] := row_tabR _ _ _ h
theorem aug_width {M : List (List G)} {b : List G} {n : Nat} (hw : Wd M n) : Wd (aug M b) (n + 1) := by
 intro i hi
 rw [aug_length] at hi
 rw [row_aug hi, List.length_append, hw i hi]
 rfl
theorem co_aug {M : List (List G)} {b : List G} {n i : Nat} (hw : Wd M n) (h : i < M.length) (j : Nat) : co (row (aug M b) i) j = if j < n then co (row M i) j else if j = n then co b i else 0 := by
 rw [row_aug h, co_append, hw i h]
 by_cases hj : j < n
 ·rw [if_pos hj, if_pos hj]
 ·rw [if_neg hj, if_neg hj]
  by_cases e : j = n
  ·rw [if_pos e, e, Nat.sub_self]; rfl
  ·rw [if_neg e, co_ge (by simp; omega)]
def one (n : Nat) (x : Nat → G) (j : Nat) : G := if j < n then x j else 1
theorem dt_one (n : Nat) (v x : Nat → G) : dt (n + 1) v (one n x) = dt n v x + v n := by
 have : dt (n + 1) v (one n x) = dt n v (one n x) + v n * one n x n := rfl
 have h2 : dt n v (one n x) = dt n v x := dt_congr (fun _ _ => rfl) (fun j hj => if_pos hj)
 rw [this, h2]
 unfold one
 rw [if_neg (Nat.lt_irrefl _), mul_one]
def Sol (M : List (List G)) (n : Nat) (x : Nat → G) : Prop := ∀ i, i < M.length → dt n (co (row M i)) x = co (row M i) n
theorem sol_ker {M : List (List G)} {n : Nat} {x : Nat → G} : Sol M n x ↔ Ker M (n + 1) (one n x) := by
 constructor
 ·intro h i hi
  rw [dt_one, h i hi, add_self]
 ·intro h i hi
  have := h i hi
  rw [dt_one] at this
  exact add_eq_zero.1 this
theorem sol_span {M N : List (List G)} (h : ∀ v, Sp N v ↔ Sp M v) {n : Nat} {x : Nat → G} : Sol N n x ↔ Sol M n x := by
 rw [sol_ker, sol_ker]
 exact ⟨Ker.of_span (fun v => (h v).2), Ker.of_span (fun v => (h v).1)⟩
theorem sol_aug {M : List (List G)} {b : List G} {n : Nat} (hw : Wd M n) {x : Nat → G} : Sol (aug M b) n x ↔ ∀ i, i < M.length → dt n (co (row M i)) x = co b i := by
 have key : ∀ i, i < M.length → (dt n (co (row (aug M b) i)) x = co (row (aug M b) i) n ↔ dt n (co (row M i)) x = co b i) := by
  intro i hi
  rw [co_aug hw hi, if_neg (Nat.lt_irrefl _), if_pos rfl, dt_congr (w := co (row M i)) (y := x) (fun j hj => by rw [co_aug hw hi, if_pos hj]) (fun _ _ => rfl)]
 constructor
 ·intro h i hi
  exact (key i hi).1 (h i (by rw [aug_length]; exact hi))
 ·intro h i hi
  rw [aug_length] at hi
  exact (key i hi).2 (h i hi)
def outp (R : List (List G)) (ps : List Nat) (n : Nat) : Nat → List G
 | 0 => List.replicate n 0
 | k + 1 => (outp R ps n k).set (ps.getD k 0) (co (row R k) n)
theorem outp_length (R : List (List G)) (ps : List Nat) (n k : Nat) : (outp R ps n k).length = n := by
 induction k with
 | zero => exact List.length_replicate
 | succ k ih => rw [outp, List.length_set, ih]
theorem dt_set {n p : Nat} {v : Nat → G} {x : List G} {c : G} (hp : p < n) (hl : p < x.length) (h0 : co x p = 0) : dt n v (co (x.set p c)) = dt n v (co x) + v p * c := by
 have h1 : dt n v (co (x.set p c)) = sum (fun j => v j * co x j + if j = p then v p * c else 0) n := by
  unfold dt
  apply sum_congr
  intro j _
  rw [co_set _ _ _ _ hl]
  by_cases e : j = p
  ·rw [if_pos e, if_pos e, e, h0, mul_zero, zero_add]
  ·rw [if_neg e, if_neg e, add_zero]
 rw [h1, sum_add]
 congr 1
 rw [sum_single (k := p) hp (fun i _ hne => if_neg hne), if_pos rfl]
theorem outp_zero {R : List (List G)} {ps : List Nat} {n : Nat} (h : RF R ps n) (k : Nat) (hk : k ≤ ps.length) : ∀ j, (∀ s, s < k → ps.getD s 0 ≠ j) → co (outp R ps n k) j = 0 := by
 induction k with
 | zero => intro j _; exact co_replicate n j
 | succ k ih =>
  intro j hj
  rw [outp, co_set _ _ _ _ (by rw [outp_length]; exact h.lt k (by omega)), if_neg (fun e => hj k (by omega) e.symm)]
  exact ih (by omega) j (fun s hs => hj s (by omega))
theorem outp_dt {R : List (List G)} {ps : List Nat} {n : Nat} (h : RF R ps n) (k : Nat) (hk : k ≤ ps.length) {i : Nat} (hi : i < R.length) : dt n (co (row R i)) (co (outp R ps n k)) = if i < k then co (row R i) n else 0 := by
 induction k with
 | zero =>
  rw [if_neg (Nat.not_lt_zero _)]
  exact dt_zero (fun j _ => .inr (co_replicate n j))
 | succ k ih =>
  have hlt := h.lt k (by omega)
  rw [outp, dt_set hlt (by rw [outp_length]; exact hlt) (outp_zero h k (by omega) _ (fun s hs => Nat.ne_of_lt (h.asc s k hs (by omega)))), ih (by omega), h.unit i k hi (by omega)]
  by_cases e : i = k
  ·rw [if_neg (by omega), if_pos e, if_pos (by omega), one_mul, zero_add, e]
  ·rw [if_neg e, zero_mul, add_zero]
   by_cases h2 : i < k
   ·rw [if_pos h2, if_pos (by omega)]
   ·rw [if_neg h2, if_neg (by omega)]
def okS (R : List (List G)) (ps : List Nat) (n : Nat) : Prop := ∀ i, ps.length ≤ i → i < R.length → co (row R i) n = 0
theorem okS_sol {R : List (List G)} {ps : List Nat} {n : Nat} (h : RF R ps n) (hok : okS R ps n) : Sol R n (co (outp R ps n ps.length)) := by
 intro i hi
 rw [outp_dt h _ (Nat.le_refl _) hi]
 by_cases e : i < ps.length
 ·rw [if_pos e]
 ·rw [if_neg e, hok i (by omega) hi]
theorem sol_okS {R : List (List G)} {ps : List Nat} {n : Nat} (h : RF R ps n) {x : Nat → G} (hx : Sol R n x) : okS R ps n := by
 intro i hi hi2
 rw [← hx i hi2]
 exact dt_zero (fun j hj => .inl (h.low i j hi hi2 hj))
def sv (M : List (List G)) (b : List G) (n : Nat) : List (List G) × List Nat := reduce (aug M b) n
def svx (M : List (List G)) (b : List G) (n : Nat) : List G := outp (sv M b n).1 (sv M b n).2 n (sv M b n).2.length
theorem svx_length (M : List (List G)) (b : List G) (n : Nat) : (svx M b n).length = n := outp_length _ _ _ _
theorem sv_length (M : List (List G)) (b : List G) (n : Nat) : (sv M b n).1.length = M.length := by rw [sv, reduce_length, aug_length]
theorem sv_ok {M : List (List G)} {b : List G} {n : Nat} (hw : Wd M n) (hb : b.length = M.length) (h : okS (sv M b n).1 (sv M b n).2 n) : tms M (svx M b n) = b := by
 rw [tms_iff hw (svx_length _ _ _) hb]
 exact (sol_aug hw).1 ((sol_span (reduce_span _ _)).1 (okS_sol (reduce_RF _ _) h))
theorem sv_of {M : List (List G)} {b x : List G} {n : Nat} (hw : Wd M n) (hx : x.length = n) (hb : b.length = M.length) (h : tms M x = b) : okS (sv M b n).1 (sv M b n).2 n := by
 refine sol_okS (reduce_RF _ _) (x := co x) ((sol_span (reduce_span _ _)).2 ((sol_aug hw).2 ?_))
 exact (tms_iff hw hx hb).1 h
theorem mem_getD {ps : List Nat} {x : Nat} : x ∈ ps ↔ ∃ t, t < ps.length ∧ ps.getD t 0 = x := by
 rw [List.mem_iff_getElem]
 constructor
 ·rintro ⟨t, ht, rfl⟩
  exact ⟨t, ht, by simp [List.getD_eq_getElem?_getD, List.getElem?_eq_getElem ht]⟩
 ·rintro ⟨t, ht, rfl⟩
  exact ⟨t, ht, by simp [List.getD_eq_getElem?_getD, List.getElem?_eq_getElem ht]⟩
end Go.Proofs.Ytndljfagojnidaa.Al
namespace Go.Proofs.Ytndljfagojnidaa.Al
open Go Go.RowKit Go.Proofs.YtndljfagojnidaaW.PrintWords Go.Proofs.YtndljfagojnidaaW.PrintMore Go.Proofs.Ytndljfagojnidaa.P
set_option linter.unusedVariables false
set_option linter.unusedSimpArgs false
def bss (M : List (List G)) : List (List Int) := M.map bs
theorem bss_length (M : List (List G)) : (bss M).length = M.length := List.length_map _
theorem rd_bss (M : List (List G)) (i : Nat) : rd_L2 (bss M) (i : Int) = bs (row M i) := by
 simp only [rd_L2, bss, Int.toNat_natCast, row, List.getD_eq_getElem?_getD, List.getElem?_map]
 cases M[i]? <;> rfl
theorem rd_bss0 (M : List (List G)) : rd_L2 (bss M) 0 = bs (row M 0) := rd_bss M 0
theorem bss_set (M : List (List G)) (n : Nat) (r : List G) : (bss M).set n (bs r) = bss (M.set n r) := List.map_set.symm
theorem bss_snoc (M : List (List G)) (r : List G) : bss M ++ [bs r] = bss (M ++ [r]) := by simp [bss]
theorem bss_drop (M : List (List G)) (n : Nat) : (bss M).drop n = bss (M.drop n) := List.map_drop.symm
def wid (M : List (List G)) : Nat := (row M 0).length
def Rt (M : List (List G)) : Prop := Wd M (wid M)
instance (M : List (List G)) : Decidable (Rt M) := Nat.decidableBallLT M.length (fun i _ => (row M i).length = wid M)
theorem row_snoc_take {M : List (List G)} {n : Nat} (h : n < M.length) : M.take n ++ [row M n] = M.take (n + 1) := by
 rw [List.take_succ_eq_append_getElem h, row_lt h]
def Fit (M : List (List G)) : Prop := M.length < 1000000 ∧ ∀ i, i < M.length → (row M i).length < 1000000
theorem Fit.of {M : List (List G)} {w : Nat} (h1 : M.length < 1000000) (hw : Wd M w) (h2 : w < 1000000) : Fit M := ⟨h1, fun i hi => by rw [hw i hi]; exact h2⟩
theorem Fit.wid {M : List (List G)} (h : Fit M) : wid M < 1000000 := by
 unfold Al.wid
 by_cases e : 0 < M.length
 ·exact h.2 0 e
 ·rw [row_ge (by omega)]; decide
theorem fidx_idx {α : Type} (p : α → Bool) : ∀ (l : List α) (i : Nat), fidx p l i = if l.findIdx p < l.length then ((i + l.findIdx p : Nat) : Int) else -1 := by
 intro l
 induction l with
 | nil => intro i; rfl
 | cons a l ih =>
  intro i
  rw [fidx, List.findIdx_cons]
  cases h : p a with
  | true => simp
  | false =>
   rw [if_neg (by simp), ih]
   simp only [Bool.cond_false, List.length_cons]
   by_cases e : l.findIdx p < l.length
   ·rw [if_pos e, if_pos (by omega)]; omega
   ·rw [if_neg e, if_neg (by omega)]
theorem findIdx_bss (p : List Int → Bool) (q : List G → Bool) (h : ∀ r, p (bs r) = q r) (M : List (List G)) : (bss M).findIdx p = M.findIdx q := by
 rw [bss, List.findIdx_map]
 congr 1
 funext r
 exact h r
theorem right_some (M : List (List G)) : linear_Right.f (bss M) = some (decide (Rt M)) := by
 unfold linear_Right.f
 congr 1
 rw [fidx_idx, findIdx_bss _ (fun r => decide (r.length ≠ wid M)) (fun r => by
  rw [rd_bss0, bs_length, bs_length]
  show (!((r.length : Int) == ((row M 0).length : Int))) = _
  unfold wid
  by_cases e : r.length = (row M 0).length
  ·rw [decide_eq_false (by simp [e])]
   simp [e]
  ·rw [decide_eq_true e]
   simp
   omega), bss_length]
 by_cases h : M.findIdx (fun r => decide (r.length ≠ wid M)) < M.length
 ·rw [if_pos h, decide_eq_true (by omega)]
  have h2 := List.findIdx_getElem (w := h)
  rw [← row_lt h] at h2
  rw [decide_eq_false (fun hr => (of_decide_eq_true h2) (hr _ h))]
  rfl
 ·rw [if_neg h, decide_eq_false (by omega)]
  have hr : Rt M := by
   intro i hi
   have h3 := List.not_of_lt_findIdx (p := fun r => decide (r.length ≠ wid M)) (xs := M) (i := i) (by omega)
   rw [← row_lt hi] at h3
   simpa using h3
  rw [decide_eq_true hr]
  rfl
theorem clone_l0 (M : List (List G)) (hM : Fit M) (d : Nat) : ∀ n : Nat, n + d = M.length → Ev (fun k => linear_clone.l0 k (bss (M.take n)) (bss M) (M.length : Int) (n : Int)) (bss M) := by
 have h1 := hM.1
 induction d with
 | zero =>
  intro n hn
  refine Ev.step (fun k => linear_clone.l0.eq_2 _ _ _ _ _) (Ev.neg (by omega) ?_)
  rw [List.take_of_length_le (by omega)]
  exact Ev.now _
 | succ d ih =>
  intro n hn
  refine Ev.step (fun k => linear_clone.l0.eq_2 _ _ _ _ _) (Ev.pos (by omega) (Ev.pos (by omega) (Ev.pos (by rw [bss_length]; omega) ?_)))
  have h2 := hM.2 n (by omega)
  rw [rd_bss, clone_some _ (by rw [bs_length]; omega)]
  refine Ev.somef (Ev.pos (by rw [bss_length, List.length_take]; omega) ?_)
  rw [bss_snoc, row_snoc_take (by omega), wrap_succ (by omega)]
  exact ih (n + 1) (by omega)
theorem clone_ev (M : List (List G)) (hM : Fit M) : Ev (fun k => linear_clone.f k (bss M)) (bss M) := by
 refine Ev.congr (fun k => linear_clone.f.eq_1 _ _) ?_
 rw [bss_length]
 exact clone_l0 M hM M.length 0 (by omega)
theorem width_some (M : List (List G)) : linear_width.f (bss M) = some (wid M : Int) := by
 unfold linear_width.f
 rw [bss_length]
 by_cases h : (M.length : Int) = 0
 ·rw [if_pos h, wid, row_ge (by omega)]
  rfl
 ·rw [if_neg h, if_pos (by omega), rd_bss0, bs_length]
  rfl
theorem scaleB_l0 (a : G) (p : List G) (hp : p.length < 1000000) (d : Nat) : ∀ (n : Nat) (o : List G), n + d = p.length → o.length = p.length → (∀ j, j < n → co o j = co p j * a) →
 Ev (fun k => gf_Scale.l0 k a.i (bs o) (bs p) (p.length : Int) (n : Int)) (bs (scale a p)) := by
 induction d with
 | zero =>
  intro n o hn ho h
  refine Ev.step (fun k => gf_Scale.l0.eq_2 _ _ _ _ _ _) (Ev.neg (by omega) ?_)
  have : o = scale a p := ext_co (by rw [scale_length, ho]) (fun j hj => by rw [h j (by omega), co_scale, mul_comm])
  rw [this]
  exact Ev.now _
 | succ d ih =>
  intro n o hn ho h
  refine Ev.step (fun k => gf_Scale.l0.eq_2 _ _ _ _ _ _) (Ev.pos (by omega) (Ev.pos (by omega) (Ev.pos (by rw [bs_length]; omega) ?_)))
  rw [rd_bs]
  refine Ev.bind (mul_ev _ _) (Ev.pos (by rw [bs_length]; omega) ?_)
  rw [Int.toNat_natCast, bs_set, wrap_succ (by omega)]
  refine ih (n + 1) _ (by omega) (by rw [List.length_set]; exact ho) (fun j hj => ?_)
  rw [co_set _ _ _ _ (by omega)]
  by_cases e : j = n
  ·rw [if_pos e, e]
  ·rw [if_neg e, h j (by omega)]
theorem scaleB_ev (a : G) (p : List G) (hp : p.length < 1000000) : Ev (fun k => gf_Scale.f k (bs p) a.i) (bs (scale a p)) := by
 refine Ev.congr (fun k => gf_Scale.f.eq_1 _ _ _) ?_
 rw [bs_length, Int.toNat_natCast, bs_replicate]
 exact Ev.pos (by omega) (Ev.pos (by omega) (scaleB_l0 a p hp p.length 0 _ (by omega) List.length_replicate (fun j hj => by omega)))
theorem take_l0 (s r : List G) (by_ : G) (hs : s.length = r.length) (hr : r.length < 1000000) (d : Nat) : ∀ (n : Nat) (o : List G), n + d = s.length → o.length = r.length → (∀ j, co o j = if j < n then co r j + co s j * by_ else co r j) →
 Ev (fun k => linear_take.l0 k (bs o) by_.i (bs s) (s.length : Int) (n : Int)) (bs (zadd r (scale by_ s))) := by
 induction d with
 | zero =>
  intro n o hn ho h
  refine Ev.step (fun k => linear_take.l0.eq_2 _ _ _ _ _ _) (Ev.neg (by omega) ?_)
  have : o = zadd r (scale by_ s) := ext_co (by rw [zadd_length, scale_length, ho, hs, Nat.max_self]) (fun j hj => by rw [h j, if_pos (by omega), co_zadd, co_scale, mul_comm])
  rw [this]
  exact Ev.now _
 | succ d ih =>
  intro n o hn ho h
  refine Ev.step (fun k => linear_take.l0.eq_2 _ _ _ _ _ _) (Ev.pos (by omega) (Ev.pos (by omega) (Ev.pos (by rw [bs_length]; omega) (Ev.pos (by rw [bs_length]; omega) ?_))))
  rw [rd_bs, rd_bs]
  refine Ev.bind (mul_ev _ _) ?_
  rw [Int.toNat_natCast, xor_i, bs_set, wrap_succ (by omega)]
  refine ih (n + 1) _ (by omega) (by rw [List.length_set]; exact ho) (fun j => ?_)
  rw [co_set _ _ _ _ (by omega)]
  by_cases e : j = n
  ·rw [if_pos e, e, if_pos (by omega), h n, if_neg (by omega)]
  ·rw [if_neg e, h j]
   by_cases h2 : j < n
   ·rw [if_pos h2, if_pos (by omega)]
   ·rw [if_neg h2, if_neg (by omega)]
theorem take_ev (s r : List G) (by_ : G) (hs : s.length = r.length) (hr : r.length < 1000000) : Ev (fun k => linear_take.f k (bs s) (bs r) by_.i) (bs (zadd r (scale by_ s))) := by
 refine Ev.congr (fun k => linear_take.f.eq_1 _ _ _ _) ?_
 rw [bs_length]
 exact take_l0 s r by_ hs hr s.length 0 r (by omega) rfl (fun j => by rw [if_neg (Nat.not_lt_zero _)])
theorem row_sw {M : List (List G)} {a u k : Nat} (ha : a < M.length) (hu : u < M.length) : row ((M.set a (row M u)).set u (row M a)) k = swp M a u k := by
 rw [row_set _ _ _ _ (by rw [List.length_set]; exact hu), row_set _ _ _ _ ha]
 unfold swp
 by_cases h1 : k = a
 ·rw [if_pos h1, if_pos h1]
  by_cases h2 : k = u
  ·rw [if_pos h2]
   rw [← h1, h2]
  ·rw [if_neg h2]
 ·rw [if_neg h1, if_neg h1]
theorem sw_bss (M : List (List G)) (a u : Nat) : linear_pivot.sw (bss M) a u = bss ((M.set a (row M u)).set u (row M a)) := by
 have e : ∀ i, (bss M).getD i [] = bs (row M i) := fun i => by
  have := rd_bss M i
  rwa [rd_L2, Int.toNat_natCast] at this
 unfold linear_pivot.sw
 rw [e, e, bss_set, bss_set]
theorem piv_length {M : List (List G)} {w c u : Nat} (hw : Wd M w) (hu : u < M.length) : (piv M c u).length = w := by rw [piv, scale_length, hw u hu]
theorem pivot_l0 (M : List (List G)) (w a c u : Nat) (hM : M.length < 1000000) (hw : Wd M w) (hw2 : w < 1000000) (ha : a < M.length) (hu : u < M.length) (hc : c < w) (d : Nat) : ∀ (n : Nat) (N : List (List G)), n + d = M.length → N.length = M.length →
 (∀ k, k < M.length → row N k = if k = a then piv M c u else if k < n then row (elim M a c u) k else swp M a u k) →
 Ev (fun k => linear_pivot.l0 k (bss N) (a : Int) (c : Int) (M.length : Int) (n : Int)) (bss (elim M a c u)) := by
 induction d with
 | zero =>
  intro n N hn hN h
  refine Ev.step (fun k => linear_pivot.l0.eq_2 _ _ _ _ _ _) (Ev.neg (by omega) ?_)
  have : N = elim M a c u := by
   apply ext_row
   ·rw [hN, elim_length]
   ·intro i hi
    rw [h i (by omega)]
    by_cases e : i = a
    ·rw [if_pos e, e, row_elim ha, if_pos rfl]
    ·rw [if_neg e, if_pos (by omega)]
  rw [this]
  exact Ev.now _
 | succ d ih =>
  intro n N hn hN h
  refine Ev.step (fun k => linear_pivot.l0.eq_2 _ _ _ _ _ _) (Ev.pos (by omega) (Ev.pos (by omega) (Ev.pos (by rw [bss_length]; omega) (Ev.pos (by omega) (Ev.pos (by rw [bss_length]; omega) ?_)))))
  rw [rd_bss, rd_bss, wrap_succ (by omega)]
  by_cases e : n = a
  ·refine Ev.pos (by omega) (ih (n + 1) N (by omega) hN (fun k hk => ?_))
   rw [h k hk]
   by_cases e2 : k = a
   ·rw [if_pos e2, if_pos e2]
   ·rw [if_neg e2, if_neg e2]
    by_cases e3 : k < n
    ·rw [if_pos e3, if_pos (by omega)]
    ·rw [if_neg e3, if_neg (by omega)]
  ·have hr : row N n = swp M a u n := by rw [h n (by omega), if_neg e, if_neg (Nat.lt_irrefl _)]
   have hs : row N a = piv M c u := by rw [h a ha, if_pos rfl]
   have hrl := swp_width hw ha hu (k := n) (by omega)
   refine Ev.neg (by omega) (Ev.pos (by omega) ?_)
   rw [hr, hs]
   refine Ev.pos (by rw [bs_length]; omega) ?_
   rw [rd_bs]
   refine Ev.bind (take_ev _ _ _ (by rw [piv_length hw hu, hrl]) (by omega)) ?_
   rw [Int.toNat_natCast, bss_set]
   refine ih (n + 1) _ (by omega) (by rw [List.length_set]; exact hN) (fun k hk => ?_)
   rw [row_set _ _ _ _ (by omega)]
   by_cases e2 : k = n
   ·rw [if_pos e2, e2, if_neg e, if_pos (by omega), row_elim (by omega), if_neg e]
   ·rw [if_neg e2, h k hk]
    by_cases e3 : k = a
    ·rw [if_pos e3, if_pos e3]
    ·rw [if_neg e3, if_neg e3]
     by_cases e4 : k < n
     ·rw [if_pos e4, if_pos (by omega)]
     ·rw [if_neg e4, if_neg (by omega)]
theorem fidx_fnd (M : List (List G)) (a c : Nat) : fidx (fun x => !(rd x (c : Int) == 0)) ((bss M).drop a) 0 = if fnd M a c < M.length then ((fnd M a c - a : Nat) : Int) else -1 := by
 rw [bss_drop, fidx_idx, findIdx_bss _ (fun r => decide (co r c ≠ 0)) (fun r => by
  rw [rd_bs]
  by_cases e : co r c = 0
  ·rw [decide_eq_false (by simp [e]), e]
   rfl
  ·rw [decide_eq_true e]
   have : (co r c).i ≠ 0 := fun h => e (i_eq_zero.1 h)
   simp [this]), bss_length, List.length_drop]
 have hle := List.findIdx_le_length (p := fun r => decide (co r c ≠ 0)) (xs := M.drop a)
 rw [List.length_drop] at hle
 unfold fnd
 generalize List.findIdx (fun r => decide (co r c ≠ 0)) (M.drop a) = f at hle
 by_cases h : f < M.length - a
 ·rw [if_pos h, if_pos (by omega)]; omega
 ·rw [if_neg h, if_neg (by omega)]
theorem pivot_pre {M : List (List G)} {w c : Nat} (hw : Wd M w) (hc : c < w) : ((bss M).all fun x => decide ((c : Int) < (x.length : Int))) = true := by
 rw [List.all_eq_true]
 intro x hx
 rw [bss, List.mem_map] at hx
 obtain ⟨r, hr, rfl⟩ := hx
 obtain ⟨i, hi, rfl⟩ := List.mem_iff_getElem.1 hr
 have := hw i hi
 rw [row_lt hi] at this
 rw [bs_length, this]
 exact decide_eq_true (by omega)
theorem pivot_no {M : List (List G)} {w a c : Nat} (hw : Wd M w) (ha : a < M.length) (hc : c < w) (hf : ¬ fnd M a c < M.length) : Ev (fun k => linear_pivot.f k (bss M) (a : Int) (c : Int)) (bss M, false) := by
 refine Ev.congr (fun k => linear_pivot.f.eq_1 _ _ _ _) (Ev.pos (by omega) (Ev.pos (by rw [bss_length]; omega) (Ev.pos (by omega) (Ev.pos (pivot_pre hw hc) ?_))))
 rw [Int.toNat_natCast, fidx_fnd, if_neg hf]
 exact Ev.pos (by omega) (Ev.now _)
theorem pivot_yes {M : List (List G)} {w a c : Nat} (hM : M.length < 1000000) (hw : Wd M w) (hw2 : w < 1000000) (ha : a < M.length) (hc : c < w) (hf : fnd M a c < M.length) : Ev (fun k => linear_pivot.f k (bss M) (a : Int) (c : Int)) (bss (elim M a c (fnd M a c)), true) := by
 have hle := fnd_le M a c
 refine Ev.congr (fun k => linear_pivot.f.eq_1 _ _ _ _) (Ev.pos (by omega) (Ev.pos (by rw [bss_length]; omega) (Ev.pos (by omega) (Ev.pos (pivot_pre hw hc) ?_))))
 rw [Int.toNat_natCast, fidx_fnd, if_pos hf]
 refine Ev.neg (by omega) ?_
 have e : ((a : Int) + ((fnd M a c - a : Nat) : Int)).toNat = fnd M a c := by omega
 rw [e, sw_bss, rd_bss, row_sw ha hf]
 have e2 : swp M a (fnd M a c) a = row M (fnd M a c) := by unfold swp; rw [if_pos rfl]
 rw [e2, rd_bs]
 refine Ev.bind (inv_ev _) (Ev.bind (scaleB_ev _ _ (by rw [hw _ hf]; exact hw2)) ?_)
 rw [bss_set, bss_length]
 refine Ev.bind (pivot_l0 M w a c (fnd M a c) hM hw hw2 ha hf hc M.length 0 _ (by omega) (by simp) (fun k hk => ?_)) (Ev.now _)
 rw [row_set _ _ _ _ (by simp; exact ha), row_sw ha hf]
 by_cases h : k = a
 ·rw [if_pos h, if_pos h]; rfl
 ·rw [if_neg h, if_neg h, if_neg (Nat.not_lt_zero _)]
def psI (ps : List Nat) : List Int := ps.map (fun x : Nat => (x : Int))
theorem psI_length (ps : List Nat) : (psI ps).length = ps.length := List.length_map _
theorem psI_snoc (ps : List Nat) (c : Nat) : psI ps ++ [(c : Int)] = psI (ps ++ [c]) := by simp [psI]
theorem rd_psI (ps : List Nat) (t : Nat) : rd (psI ps) (t : Int) = ((ps.getD t 0 : Nat) : Int) := by
 simp only [rd, psI, Int.toNat_natCast, List.getD_eq_getElem?_getD, List.getElem?_map]
 cases ps[t]? <;> rfl
theorem fnd_end {M : List (List G)} {a c : Nat} (h : M.length ≤ a) : ¬ fnd M a c < M.length := by
 have := fnd_le M a c
 omega
theorem reduce_l0 (w b : Nat) (hw2 : w < 1000000) (hb : b ≤ w) (d : Nat) : ∀ (M : List (List G)) (ps : List Nat) (c : Nat), M.length < 1000000 → Wd M w → ps.length ≤ M.length → c + d = b →
 Ev (fun k => linear_Reduce.l0 k (M.length : Int) (bss M) (psI ps) (b : Int) (c : Int)) (bss (red d M ps c).1, psI (red d M ps c).2) := by
 induction d with
 | zero =>
  intro M ps c hM hw hp hc
  exact Ev.step (fun k => linear_Reduce.l0.eq_2 _ _ _ _ _ _) (Ev.neg (by omega) (Ev.now _))
 | succ d ih =>
  intro M ps c hM hw hp hc
  refine Ev.step (fun k => linear_Reduce.l0.eq_2 _ _ _ _ _ _) (Ev.pos (by omega) ?_)
  rw [psI_length, wrap_succ (by omega)]
  unfold red
  by_cases hlt : ps.length < M.length
  ·refine Ev.pos (by omega) ?_
   by_cases hf : fnd M ps.length c < M.length
   ·rw [if_pos hf]
    refine Ev.bind (pivot_yes hM hw hw2 hlt (by omega) hf) (Ev.pos rfl (Ev.pos (by omega) ?_))
    rw [psI_snoc]
    have := ih (elim M ps.length c (fnd M ps.length c)) (ps ++ [c]) (c + 1) (by rw [elim_length]; exact hM) (elim_width hw hlt hf) (by rw [elim_length]; simp; omega) (by omega)
    rw [elim_length] at this
    exact this
   ·rw [if_neg hf]
    exact Ev.bind (pivot_no hw hlt (by omega) hf) (Ev.neg (by simp) (ih M ps (c + 1) hM hw hp (by omega)))
  ·rw [if_neg (fnd_end (by omega))]
   exact Ev.neg (by omega) (ih M ps (c + 1) hM hw hp (by omega))
def cols (a : Int) (w : Nat) : Nat := min a.toNat w
theorem cols_eq (a : Int) (w : Nat) : mn (mx a 0) (w : Int) = (cols a w : Int) := by
 unfold mn mx cols
 split <;> split <;> omega
theorem reduce_ev (M : List (List G)) (a : Int) (hM : Fit M) (hr : Rt M) : Ev (fun k => linear_Reduce.f k (bss M) a) (bss (reduce M (cols a (wid M))).1, psI (reduce M (cols a (wid M))).2) := by
 refine Ev.congr (fun k => linear_Reduce.f.eq_1 _ _ _) ?_
 rw [right_some, decide_eq_true hr]
 refine Ev.somef (Ev.pos rfl (Ev.bind (clone_ev M hM) ?_))
 rw [width_some]
 refine Ev.somef ?_
 rw [cols_eq, bss_length]
 exact reduce_l0 (wid M) (cols a (wid M)) hM.wid (Nat.min_le_right _ _) (cols a (wid M)) M [] 0 hM.1 hr (Nat.zero_le _) (Nat.zero_add _)
theorem cols_nat (n w : Nat) : cols (n : Int) w = min n w := by unfold cols; rw [Int.toNat_natCast]
theorem beside_l0 (M : List (List G)) (b : List G) (hM : Fit M) (hb : b.length = M.length) (d : Nat) : ∀ (n : Nat) (N : List (List G)), n + d = M.length → N.length = M.length → (∀ k, k < M.length → row N k = if k < n then row M k ++ [co b k] else row M k) →
 Ev (fun k => linear_beside.l0 k (bss N) (bs b) (b.length : Int) (n : Int)) (bss (aug M b)) := by
 have h1 := hM.1
 induction d with
 | zero =>
  intro n N hn hN h
  refine Ev.step (fun k => linear_beside.l0.eq_2 _ _ _ _ _) (Ev.neg (by omega) ?_)
  have : N = aug M b := ext_row (by rw [hN, aug_length]) (fun i hi => by rw [h i (by omega), if_pos (by omega), row_aug (by omega)])
  rw [this]
  exact Ev.now _
 | succ d ih =>
  intro n N hn hN h
  have hr : row N n = row M n := by rw [h n (by omega), if_neg (Nat.lt_irrefl _)]
  have h2 := hM.2 n (by omega)
  refine Ev.step (fun k => linear_beside.l0.eq_2 _ _ _ _ _) (Ev.pos (by omega) (Ev.pos (by omega) (Ev.pos (by rw [bs_length]; omega) (Ev.pos (by rw [bss_length]; omega) ?_))))
  rw [rd_bss, hr, rd_bs]
  refine Ev.pos (by rw [bs_length]; omega) ?_
  have e : bs (row M n) ++ [(co b n).i] = bs (row M n ++ [co b n]) := by rw [bs_append]; rfl
  rw [e, Int.toNat_natCast, bss_set, wrap_succ (by omega)]
  refine ih (n + 1) _ (by omega) (by rw [List.length_set]; exact hN) (fun k hk => ?_)
  rw [row_set _ _ _ _ (by omega)]
  by_cases e2 : k = n
  ·rw [if_pos e2, if_pos (by omega), e2]
  ·rw [if_neg e2, h k hk]
   by_cases e3 : k < n
   ·rw [if_pos e3, if_pos (by omega)]
   ·rw [if_neg e3, if_neg (by omega)]
theorem beside_ev (M : List (List G)) (b : List G) (hM : Fit M) (hb : b.length = M.length) : Ev (fun k => linear_beside.f k (bss M) (bs b)) (bss (aug M b)) := by
 refine Ev.congr (fun k => linear_beside.f.eq_1 _ _ _) (Ev.bind (clone_ev M hM) ?_)
 rw [bs_length]
 exact beside_l0 M b hM hb M.length 0 M (by omega) rfl (fun k hk => by rw [if_neg (Nat.not_lt_zero _)])
theorem solve_l0 (R : List (List G)) (ps : List Nat) (n : Nat) (hR : R.length < 1000000) (hw : Wd R (n + 1)) (hf : RF R ps n) (d : Nat) : ∀ i : Nat, i + d = R.length → (∀ j, ps.length ≤ j → j < i → co (row R j) n = 0) →
 (okS R ps n → Ev (fun k => linear_Solve.l0 k (n : Int) (psI ps) (bs (outp R ps n (min i ps.length))) (bss R) (R.length : Int) (i : Int)) (bs (outp R ps n ps.length), true)) ∧
 (¬ okS R ps n → Ev (fun k => linear_Solve.l0 k (n : Int) (psI ps) (bs (outp R ps n (min i ps.length))) (bss R) (R.length : Int) (i : Int)) ([], false)) := by
 have hlen := hf.len
 induction d with
 | zero =>
  intro i hi h
  refine ⟨fun _ => Ev.step (fun k => linear_Solve.l0.eq_2 _ _ _ _ _ _ _) (Ev.neg (by omega) ?_), fun hn => absurd (fun j h1 h2 => h j h1 (by omega)) hn⟩
  rw [show min i ps.length = ps.length by omega]
  exact Ev.now _
 | succ d ih =>
  intro i hi h
  have hrow := hw i (by omega)
  by_cases hp : i < ps.length
  ·have hx := hf.lt i hp
   have hstep : ∀ r, Ev (fun k => linear_Solve.l0 k (n : Int) (psI ps) (bs (outp R ps n (min (i + 1) ps.length))) (bss R) (R.length : Int) ((i + 1 : Nat) : Int)) r → Ev (fun k => linear_Solve.l0 k (n : Int) (psI ps) (bs (outp R ps n (min i ps.length))) (bss R) (R.length : Int) (i : Int)) r := by
    intro r hr
    refine Ev.step (fun k => linear_Solve.l0.eq_2 _ _ _ _ _ _ _) (Ev.pos (by omega) (Ev.pos (by omega) (Ev.pos (by rw [bss_length]; omega) (Ev.pos (by rw [psI_length]; omega) (Ev.pos (by omega) ?_)))))
    rw [rd_bss, rd_psI, rd_bs]
    refine Ev.pos (by rw [bs_length]; omega) (Ev.pos (by omega) (Ev.pos (by rw [bs_length, outp_length]; omega) ?_))
    rw [Int.toNat_natCast, bs_set, wrap_succ (by omega), show min i ps.length = i by omega]
    rw [show min (i + 1) ps.length = i + 1 by omega] at hr
    exact hr
   have hn := ih (i + 1) (by omega) (fun j h1 h2 => h j h1 (by omega))
   exact ⟨fun ho => hstep _ (hn.1 ho), fun ho => hstep _ (hn.2 ho)⟩
  ·by_cases hz : co (row R i) n = 0
   ·have hstep : ∀ r, Ev (fun k => linear_Solve.l0 k (n : Int) (psI ps) (bs (outp R ps n (min (i + 1) ps.length))) (bss R) (R.length : Int) ((i + 1 : Nat) : Int)) r → Ev (fun k => linear_Solve.l0 k (n : Int) (psI ps) (bs (outp R ps n (min i ps.length))) (bss R) (R.length : Int) (i : Int)) r := by
     intro r hr
     refine Ev.step (fun k => linear_Solve.l0.eq_2 _ _ _ _ _ _ _) (Ev.pos (by omega) (Ev.pos (by omega) (Ev.pos (by rw [bss_length]; omega) (Ev.neg (by rw [psI_length]; omega) (Ev.pos (by omega) ?_)))))
     rw [rd_bss, rd_bs]
     refine Ev.pos (by rw [bs_length]; omega) (Ev.pos (by rw [hz]; rfl) ?_)
     rw [wrap_succ (by omega), show min i ps.length = ps.length by omega]
     rw [show min (i + 1) ps.length = ps.length by omega] at hr
     exact hr
    have hn := ih (i + 1) (by omega) (fun j h1 h2 => by
     by_cases e : j = i
     ·rw [e]; exact hz
     ·exact h j h1 (by omega))
    exact ⟨fun ho => hstep _ (hn.1 ho), fun ho => hstep _ (hn.2 ho)⟩
   ·refine ⟨fun ho => absurd (ho i (by omega) (by omega)) hz, fun _ => ?_⟩
    refine Ev.step (fun k => linear_Solve.l0.eq_2 _ _ _ _ _ _ _) (Ev.pos (by omega) (Ev.pos (by omega) (Ev.pos (by rw [bss_length]; omega) (Ev.neg (by rw [psI_length]; omega) (Ev.pos (by omega) ?_)))))
    rw [rd_bss, rd_bs]
    exact Ev.pos (by rw [bs_length]; omega) (Ev.neg (by rw [i_eq_zero]; exact hz) (Ev.now _))
theorem Rt_aug {M : List (List G)} {b : List G} (hr : Rt M) : Rt (aug M b) ∧ min (wid M) (wid (aug M b)) = wid M := by
 have hw := aug_width (b := b) hr
 by_cases h : 0 < M.length
 ·have h0 : wid (aug M b) = wid M + 1 := hw 0 (by rw [aug_length]; exact h)
  refine ⟨?_, by omega⟩
  unfold Rt
  rw [h0]
  exact hw
 ·refine ⟨fun i hi => ?_, ?_⟩
  ·rw [aug_length] at hi
   omega
  ·have : wid M = 0 := by rw [wid, row_ge (by omega)]; rfl
   omega
theorem aug_fit {M : List (List G)} {b : List G} (hM : Fit M) (hr : Rt M) (hw : wid M < 999999) : Fit (aug M b) := Fit.of (by rw [aug_length]; exact hM.1) (aug_width hr) (by omega)
theorem solve_pre (M : List (List G)) (b : List G) (hM : Fit M) (hr : Rt M) (hb : b.length = M.length) (hw : wid M < 999999) {r : List Int × Bool}
 (h : Ev (fun k => linear_Solve.l0 k (wid M : Int) (psI (sv M b (wid M)).2) (bs (List.replicate (wid M) 0)) (bss (sv M b (wid M)).1) ((sv M b (wid M)).1.length : Int) 0) r) : Ev (fun k => linear_Solve.f k (bss M) (bs b)) r := by
 refine Ev.congr (fun k => linear_Solve.f.eq_1 _ _ _) ?_
 rw [right_some, bss_length, bs_length, decide_eq_true hr, show ((M.length : Int) != (b.length : Int)) = false by simp [hb]]
 refine Ev.somef (Ev.pos rfl (Ev.step (fun k => linear_Solve.j0.eq_2 _ _ _ _) (Ev.neg (by simp) ?_)))
 rw [width_some]
 have ha := Rt_aug (b := b) hr
 have he := reduce_ev (aug M b) (wid M : Int) (aug_fit hM hr hw) ha.1
 rw [cols_nat, ha.2] at he
 refine Ev.somef (Ev.bind (beside_ev M b hM hb) (Ev.bind he (Ev.pos (by omega) (Ev.pos (by rw [Int.toNat_natCast]; omega) ?_))))
 dsimp only
 rw [Int.toNat_natCast, bs_replicate, bss_length]
 exact h
theorem solve_yes (M : List (List G)) (b : List G) (hM : Fit M) (hr : Rt M) (hb : b.length = M.length) (hw : wid M < 999999) (hok : okS (sv M b (wid M)).1 (sv M b (wid M)).2 (wid M)) : Ev (fun k => linear_Solve.f k (bss M) (bs b)) (bs (svx M b (wid M)), true) := by
 refine solve_pre M b hM hr hb hw ?_
 have := (solve_l0 (sv M b (wid M)).1 (sv M b (wid M)).2 (wid M) (by rw [sv_length]; exact hM.1) (reduce_width _ (aug_width hr)) (reduce_RF _ _) _ 0 (Nat.zero_add _) (fun j _ h => by omega)).1 hok
 rw [Nat.zero_min] at this
 exact this
theorem solve_no (M : List (List G)) (b : List G) (hM : Fit M) (hr : Rt M) (hb : b.length = M.length) (hw : wid M < 999999) (hok : ¬ okS (sv M b (wid M)).1 (sv M b (wid M)).2 (wid M)) : Ev (fun k => linear_Solve.f k (bss M) (bs b)) ([], false) := by
 refine solve_pre M b hM hr hb hw ?_
 have := (solve_l0 (sv M b (wid M)).1 (sv M b (wid M)).2 (wid M) (by rw [sv_length]; exact hM.1) (reduce_width _ (aug_width hr)) (reduce_RF _ _) _ 0 (Nat.zero_add _) (fun j _ h => by omega)).2 hok
 rw [Nat.zero_min] at this
 exact this
end Go.Proofs.Ytndljfagojnidaa.Al
namespace Go.Proofs.Ytndljfagojnidaa.Al
open Go Go.RowKit Go.Proofs.YtndljfagojnidaaW.PrintWords Go.Proofs.YtndljfagojnidaaW.PrintMore Go.Proofs.Ytndljfagojnidaa.P
set_option linter.unusedVariables false
set_option linter.unusedSimpArgs false
theorem co_rmul_set (u q : List G) (s : Nat) (c : G) (hs : s < u.length) (h0 : co u s = 0) (m : Nat) :
 co (rmul (u.set s c) q) m = co (rmul u q) m + if s ≤ m then c * co q (m - s) else 0 := by
 rw [co_rmul, co_rmul]
 have h1 : sum (fun j => co (u.set s c) j * co q (m - j)) (m + 1) = sum (fun j => co u j * co q (m - j) + if j = s then c * co q (m - j) else 0) (m + 1) := by
  apply sum_congr
  intro j _
  rw [co_set _ _ _ _ hs]
  by_cases e : j = s
  ·rw [if_pos e, if_pos e, e, h0, zero_mul, zero_add]
  ·rw [if_neg e, if_neg e, add_zero]
 rw [h1, sum_add]
 congr 1
 by_cases hm : s ≤ m
 ·rw [if_pos hm, sum_single (k := s) (by omega)]
  ·rw [if_pos rfl]
  ·intro i _ hne
   rw [if_neg hne]
 ·rw [if_neg hm, sum_eq_zero]
  intro i hi
  rw [if_neg (by omega)]
structure Div (p q u r : List G) (d n : Nat) : Prop where
 ul : u.length = p.length - d
 rl : r.length = p.length
 top : ∀ j, n ≤ j → co r j = 0
 low : ∀ j, j + d < n → co u j = 0
 all : ∀ m, co p m = co r m + co (rmul u q) m
theorem divmod_loops (p q : List G) (d : Nat) (hq : (trim q).length = d + 1) (hp : p.length < 10000000000) (hql : q.length < 10000000000) (e : Nat) :
 ∀ (u r : List G) (n : Nat), n ≤ p.length → n ≤ d + e → Div p q u r d n →
 ∃ u' r', Ev (fun k => poly_DivMod.l0 k (bs q) (bs u) (bs r) (d : Int) ((n : Int) - 1)) (bs (trim u'), bs (trim r'), true) ∧ Div p q u' r' d (min n d) := by
 have hdq : d < q.length := by have := trim_length_le q; omega
 induction e with
 | zero =>
  intro u r n hn hne D
  refine ⟨u, r, Ev.step (fun k => poly_DivMod.l0.eq_2 _ _ _ _ _ _) (Ev.neg (by omega) (Ev.bind (trim_ev u (by have := D.ul; omega)) (Ev.bind (trim_ev r (by have := D.rl; omega)) (Ev.now _)))), ?_⟩
  rw [show min n d = n by omega]
  exact D
 | succ e ih =>
  intro u r n hn hne D
  by_cases hd : n ≤ d
  ·refine ⟨u, r, Ev.step (fun k => poly_DivMod.l0.eq_2 _ _ _ _ _ _) (Ev.neg (by omega) (Ev.bind (trim_ev u (by have := D.ul; omega)) (Ev.bind (trim_ev r (by have := D.rl; omega)) (Ev.now _)))), ?_⟩
   rw [show min n d = n by omega]
   exact D
  ·obtain ⟨n, rfl⟩ : ∃ m, n = m + 1 := ⟨n - 1, by omega⟩
   have hn1 : (((n + 1 : Nat) : Int) - 1) = (n : Int) := by omega
   have hqd : co q d ≠ 0 := trim_last hq
   obtain ⟨c, hc⟩ : ∃ c, c = co r n * inv (co q d) := ⟨_, rfl⟩
   obtain ⟨s, hs⟩ : ∃ s, s = n - d := ⟨_, rfl⟩
   have hul := D.ul
   have hrl := D.rl
   have hu0 : co u s = 0 := D.low s (by omega)
   have inner : ∀ (b : Nat) (r1 : List G) (i : Nat), i + b = d + 1 → r1.length = p.length → (∀ m, co r1 m = co r m + if s ≤ m ∧ m < s + i then c * co q (m - s) else 0) →
    ∃ u' r', Ev (fun k => poly_DivMod.l1 k (bs q) (bs (u.set s c)) (bs r1) (d : Int) (n : Int) c.i ((d + 1 : Nat) : Int) (i : Int)) (bs (trim u'), bs (trim r'), true) ∧ Div p q u' r' d (min (n + 1) d) := by
    intro b
    induction b with
    | zero =>
     intro r1 i hi hr1 h
     have D1 : Div p q (u.set s c) r1 d n := by
      refine ⟨by rw [List.length_set]; exact hul, hr1, ?_, ?_, ?_⟩
      ·intro j hj
       rw [h]
       by_cases ej : j = n
       ·rw [if_pos (by omega), ej, hs, show n - (n - d) = d by omega, hc, mul_assoc, inv_mul hqd, mul_one, add_self]
       ·rw [if_neg (by omega), add_zero]
        exact D.top j (by omega)
      ·intro j hj
       rw [co_set _ _ _ _ (by omega), if_neg (by omega)]
       exact D.low j (by omega)
      ·intro m
       rw [co_rmul_set u q s c (by omega) hu0, h, D.all m]
       have hsame : (if s ≤ m ∧ m < s + i then c * co q (m - s) else 0) = (if s ≤ m then c * co q (m - s) else 0) := by
        by_cases h1 : s ≤ m
        ·rw [if_pos h1]
         by_cases h2 : m < s + i
         ·rw [if_pos ⟨h1, h2⟩]
         ·rw [if_neg (by omega), trim_ge (p := q) (by omega), mul_zero]
        ·rw [if_neg h1, if_neg (by omega)]
       rw [hsame]
       generalize (if s ≤ m then c * co q (m - s) else 0) = z
       have : co r m + z + (co (rmul u q) m + z) = co r m + co (rmul u q) m + (z + z) := by ac_rfl
       rw [this, add_self, add_zero]
     obtain ⟨u', r', hE, hD⟩ := ih _ _ n (by omega) (by omega) D1
     refine ⟨u', r', Ev.step (fun k => poly_DivMod.l1.eq_2 _ _ _ _ _ _ _ _ _) (Ev.neg (by omega) ?_), ?_⟩
     ·rw [wrap_sm (by omega) (by omega)]
      exact hE
     ·rw [show min (n + 1) d = min n d by omega]
      exact hD
    | succ b ihb =>
     intro r1 i hi hr1 h
     have hw : wrap64 (wrap64 ((n : Int) - (d : Int)) + (i : Int)) = ((s + i : Nat) : Int) := by
      rw [wrap_sm (x := (n : Int) - (d : Int)) (by omega) (by omega), wrap_sm (by omega) (by omega)]; omega
     obtain ⟨u', r', hE, hD⟩ := ihb (r1.set (s + i) (co r1 (s + i) + c * co q i)) (i + 1) (by omega) (by rw [List.length_set]; exact hr1) (fun m => by
      rw [co_set _ _ _ _ (by omega)]
      by_cases e : m = s + i
      ·subst e
       rw [if_pos rfl, h, if_neg (by omega), if_pos (by omega), add_zero, show s + i - s = i by omega]
      ·rw [if_neg e, h]
       congr 1
       by_cases h1 : s ≤ m ∧ m < s + i
       ·rw [if_pos h1, if_pos (by omega)]
       ·rw [if_neg h1, if_neg (by omega)])
     refine ⟨u', r', Ev.step (fun k => poly_DivMod.l1.eq_2 _ _ _ _ _ _ _ _ _) (Ev.pos (by omega) ?_), hD⟩
     rw [hw]
     refine Ev.pos (by omega) (Ev.pos (by rw [bs_length]; omega) (Ev.pos (by omega) (Ev.pos (by rw [bs_length]; omega) ?_)))
     rw [rd_bs]
     refine Ev.bind (mul_ev _ _) ?_
     rw [rd_bs, xor_i, Int.toNat_natCast, bs_set, wrap_succ (by omega)]
     exact hE
   obtain ⟨u', r', hE, hD⟩ := inner (d + 1) r 0 (by omega) hrl (fun m => by rw [if_neg (by omega), add_zero])
   refine ⟨u', r', ?_, hD⟩
   rw [hn1]
   refine Ev.step (fun k => poly_DivMod.l0.eq_2 _ _ _ _ _ _) (Ev.pos (by omega) (Ev.pos (by omega) (Ev.pos (by rw [bs_length]; omega) (Ev.pos (by omega) (Ev.pos (by rw [bs_length]; omega) ?_)))))
   rw [rd_bs, rd_bs]
   have hw : wrap64 ((n : Int) - (d : Int)) = (s : Int) := by rw [wrap_sm (by omega) (by omega)]; omega
   have hw2 : wrap64 ((d : Int) + 1) = ((d + 1 : Nat) : Int) := wrap_succ (by omega)
   refine Ev.bind (div_ev _ _ hqd) ?_
   rw [hw, ← hc]
   have hsu : s < u.length := by
    rw [hul, hs]
    exact Nat.sub_lt_sub_right (Nat.lt_succ_iff.1 (Nat.lt_of_not_le hd)) hn
   refine Ev.pos (Int.natCast_nonneg s) (Ev.pos (by rw [bs_length]; exact Int.ofNat_lt.2 hsu) ?_)
   rw [hw2, Int.toNat_natCast]
   dsimp only
   rw [bs_set]
   exact hE
theorem divmod_ev (p q : List G) (d : Nat) (hq : (trim q).length = d + 1) (hp : p.length < 10000000000) (hql : q.length < 10000000000) :
 ∃ u r, Ev (fun k => poly_DivMod.f k (bs p) (bs q)) (bs u, bs r, true) ∧ trim u = u ∧ trim r = r ∧ r.length ≤ d ∧ u.length ≤ p.length ∧ ∀ m, co p m = co r m + co (pmul u q) m := by
 have hdq : d < q.length := by have := trim_length_le q; omega
 have hpl := trim_length_le p
 obtain ⟨N, hN⟩ : ∃ N, N = p.length - d := ⟨_, rfl⟩
 have hmx : mx (wrap64 ((p.length : Int) - (d : Int))) 0 = ((N : Nat) : Int) := by
  rw [wrap_sm (by omega) (by omega)]
  unfold mx
  split <;> omega
 have D : Div p q (List.replicate N 0) p d (trim p).length := by
  refine ⟨by rw [List.length_replicate, hN], rfl, fun j hj => trim_ge hj, fun j _ => co_replicate _ _, fun m => ?_⟩
  rw [co_rmul, sum_eq_zero, add_zero]
  intro i _
  rw [co_replicate, zero_mul]
 obtain ⟨u', r', hE, hD⟩ := divmod_loops p q d hq hp hql _ _ _ (trim p).length hpl (Nat.le_add_left _ _) D
 refine ⟨trim u', trim r', ?_, trim_trim _, trim_trim _, ?_, ?_, ?_⟩
 ·refine Ev.congr (fun k => poly_DivMod.f.eq_1 _ _ _) (Ev.bind (degree_ev q (by omega)) ?_)
  have hd : ((trim q).length : Int) - 1 = (d : Int) := by omega
  rw [hd, clone_some _ (by rw [bs_length]; omega), bs_length, hmx, Int.toNat_natCast, bs_replicate]
  have hN1 : (0 : Int) ≤ (N : Int) := Int.natCast_nonneg N
  have hN2 : N ≤ 281474976710656 := by omega
  refine Ev.neg (by omega) ?_
  refine Ev.somef ?_
  refine Ev.pos hN1 ?_
  refine Ev.pos hN2 ?_
  exact Ev.bind (degree_ev p (by omega)) hE
 ·apply trim_len_le_of
  intro j hj
  exact hD.top j (by omega)
 ·have := trim_length_le u'
  have := hD.ul
  omega
 ·intro m
  rw [co_trim, hD.all m]
  congr 1
  rw [co_rmul, co_pmul]
  apply sum_congr
  intro j _
  rw [co_trim]
end Go.Proofs.Ytndljfagojnidaa.Al
namespace Go.Proofs.Ytndljfagojnidaa.Al
open Go Go.RowKit Go.Proofs.YtndljfagojnidaaW.PrintWords Go.Proofs.YtndljfagojnidaaW.PrintMore Go.Proofs.Ytndljfagojnidaa.P
set_option linter.unusedVariables false
set_option linter.unusedSimpArgs false
theorem rdOf_thr (t : List Bool) (i : Nat) : rdOf false t (i : Int) = thr t i := by simp [rdOf, thr]
theorem count_l0 (t : List Bool) (ht : t.length < 1000000) (d : Nat) : ∀ n : Nat, n + d = t.length → Ev (fun k => welch_count.l0 k (cnt t n : Int) t (t.length : Int) (n : Int)) (cnt t t.length : Int) := by
 induction d with
 | zero =>
  intro n hn
  refine Ev.step (fun k => welch_count.l0.eq_2 _ _ _ _ _) (Ev.neg (by omega) ?_)
  rw [show t.length = n by omega]
  exact Ev.now _
 | succ d ih =>
  intro n hn
  have hle := F_le (thr t) n
  have h2 : cnt t (n + 1) = if thr t n = true then cnt t n + 1 else cnt t n := by
   unfold cnt
   rw [F_succ]
   split
   ·simp
   ·rfl
  refine Ev.step (fun k => welch_count.l0.eq_2 _ _ _ _ _) (Ev.pos (by omega) (Ev.pos (by omega) (Ev.pos (by omega) ?_)))
  rw [rdOf_thr, wrap_succ (show n < 4611686018427387904 by omega)]
  have h3 := ih (n + 1) (by omega)
  by_cases h : thr t n = true
  ·refine Ev.pos h ?_
   rw [h2, if_pos h] at h3
   rw [wrap_succ (show cnt t n < 4611686018427387904 by unfold cnt; omega)]
   exact h3
  ·refine Ev.neg h ?_
   rw [h2, if_neg h] at h3
   exact h3
def mostv (t : List Bool) (n : Int) : Int := if n < 1 then -1 else if (cnt t t.length : Int) < n then -1 else ((((cnt t t.length : Int) - n).toNat / 2 : Nat) : Int)
theorem cnt_le (t : List Bool) (m : Nat) : cnt t m ≤ m := F_le _ _
theorem most_ev (t : List Bool) (n : Int) (ht : t.length < 1000000) : Ev (fun k => welch_Most.f k t n) (mostv t n) := by
 refine Ev.congr (fun k => welch_Most.f.eq_1 _ _ _) (Ev.bind (Ev.congr (fun k => welch_count.f.eq_1 _ _) (count_l0 t ht t.length 0 (Nat.zero_add _))) ?_)
 have hle := cnt_le t t.length
 by_cases h1 : n < 1
 ·rw [show mostv t n = -1 by unfold mostv; rw [if_pos h1]]
  exact Ev.pos h1 (Ev.now _)
 ·refine Ev.neg h1 ?_
  by_cases h2 : (cnt t t.length : Int) < n
  ·rw [show mostv t n = -1 by unfold mostv; rw [if_neg h1, if_pos h2]]
   exact Ev.pos h2 (Ev.now _)
  ·refine Ev.neg h2 (evc (Ev.now _) ?_)
   unfold mostv
   rw [if_neg h1, if_neg h2, wrap_sm (x := (cnt t t.length : Int) - n) (by omega) (by omega), Int.tdiv_eq_ediv_of_nonneg (by omega), wrap_sm (by omega) (by omega)]
   omega
theorem pw_sq (a : G) (n : Nat) : pw (a * a) n = pw a (2 * n) := by
 induction n with
 | zero => rfl
 | succ n ih =>
  rw [pw, ih, show 2 * (n + 1) = 2 * n + 1 + 1 by omega, pw, pw, mul_assoc]
theorem power_l0 (x : Nat) : ∀ (a o : G), x < 256 → Ev (fun k => gf_power.l0 k a.i (x : Int) o.i) (o * pw a x).i := by
 induction x using Nat.strongRecOn with
 | _ x ih =>
  intro a o hx
  by_cases h0 : x = 0
  ·subst h0
   rw [pw, mul_one]
   exact power_end a o
  ·have hd : (x : Int) / 2 = ((x / 2 : Nat) : Int) := by omega
   by_cases h1 : x % 2 = 1
   ·refine power_odd (by omega) (by omega) (by omega) ?_
    rw [hd]
    refine evc (ih (x / 2) (by omega) (a * a) (o * a) (by omega)) ?_
    rw [pw_sq, show x = 2 * (x / 2) + 1 by omega, pw, show (2 * (x / 2) + 1) / 2 = x / 2 by omega, mul_assoc, mul_comm a]
   ·refine power_even (by omega) (by omega) (by omega) ?_
    rw [hd]
    refine evc (ih (x / 2) (by omega) (a * a) o (by omega)) ?_
    rw [pw_sq, show 2 * (x / 2) = x by omega]
theorem pw_zero (n : Nat) (h : n ≠ 0) : pw 0 n = 0 := by
 obtain ⟨m, rfl⟩ : ∃ m, n = m + 1 := ⟨n - 1, by omega⟩
 rw [pw, mul_zero]
theorem pow_ev (a : G) (j : Nat) (hj : j < 255) : Ev (fun k => gf_Pow.f k a.i (j : Int)) (pw a j).i := by
 refine Ev.congr (fun k => gf_Pow.f.eq_1 _ _ _) ?_
 by_cases h0 : j = 0
 ·subst h0
  exact Ev.pos rfl (Ev.now _)
 ·refine Ev.neg (by omega) ?_
  by_cases ha : a = 0
  ·subst ha
   rw [pw_zero j h0]
   exact Ev.pos rfl (Ev.now _)
  ·refine Ev.neg (by rw [i_eq_zero]; exact ha) (Ev.bind (a := (pw a j).i) ?_ (Ev.now _))
   have e1 : Int.tmod (j : Int) 255 = (j : Int) := by rw [Int.tmod_eq_emod_of_nonneg (by omega)]; omega
   have e2 : wrap64 ((j : Int) + 255) = (j : Int) + 255 := wrap_sm (by omega) (by omega)
   have e3 : Int.tmod ((j : Int) + 255) 255 = (j : Int) := by rw [Int.tmod_eq_emod_of_nonneg (by omega)]; omega
   rw [e1, e2, e3]
   refine Ev.congr (fun k => gf_power.f.eq_1 _ _ _) ?_
   have := power_l0 j a 1 (by omega)
   rw [one_mul] at this
   exact this
def rowE (w : List G) (n e i : Nat) : List G := tab e (fun j => co w i * pw (pl i) j) ++ tab (n + e) (fun j => pw (pl i) j)
def rgE (w : List G) (e i : Nat) : G := co w i * pw (pl i) e
def rowsE (w : List G) (t : List Bool) (n e m : Nat) : List (List G) := (F (thr t) m).map (rowE w n e)
def rghE (w : List G) (t : List Bool) (e m : Nat) : List G := (F (thr t) m).map (rgE w e)
theorem rowsE_length (w : List G) (t : List Bool) (n e m : Nat) : (rowsE w t n e m).length = cnt t m := List.length_map _
theorem rghE_length (w : List G) (t : List Bool) (e m : Nat) : (rghE w t e m).length = cnt t m := List.length_map _
theorem rowE_length (w : List G) (n e i : Nat) : (rowE w n e i).length = e + (n + e) := by rw [rowE, List.length_append, tab_length, tab_length]
theorem rowsE_succ (w : List G) (t : List Bool) (n e m : Nat) : rowsE w t n e (m + 1) = if thr t m = true then rowsE w t n e m ++ [rowE w n e m] else rowsE w t n e m := by
 unfold rowsE
 rw [F_succ]
 split
 ·simp
 ·rfl
theorem rghE_succ (w : List G) (t : List Bool) (e m : Nat) : rghE w t e (m + 1) = if thr t m = true then rghE w t e m ++ [rgE w e m] else rghE w t e m := by
 unfold rghE
 rw [F_succ]
 split
 ·simp
 ·rfl
theorem equations_loops (w : List G) (t : List Bool) (n e : Nat) (hw : w.length ≤ 255) (hl : t.length = w.length) (hne : n + e ≤ 255) (he : e < 255) (d : Nat) : ∀ i : Nat, i + d = w.length →
 Ev (fun k => welch_equations.l0 k (bs w) (n : Int) (e : Int) (bss (rowsE w t n e i)) (bs (rghE w t e i)) t (t.length : Int) (i : Int)) (bss (rowsE w t n e w.length), bs (rghE w t e w.length)) := by
 induction d with
 | zero =>
  intro i hi
  refine Ev.step (fun k => welch_equations.l0.eq_2 _ _ _ _ _ _ _ _ _) (Ev.neg (by omega) ?_)
  rw [show w.length = i by omega]
  exact Ev.now _
 | succ d ih =>
  intro i hi
  have hle := cnt_le t i
  have h3 := ih (i + 1) (by omega)
  rw [rowsE_succ, rghE_succ] at h3
  refine Ev.step (fun k => welch_equations.l0.eq_2 _ _ _ _ _ _ _ _ _) (Ev.pos (by omega) (Ev.pos (by omega) (Ev.pos (by omega) ?_)))
  rw [rdOf_thr]
  by_cases ht : thr t i = true
  ·rw [if_pos ht, if_pos ht] at h3
   refine Ev.pos ht (Ev.pos (by rw [bs_length]; omega) ?_)
   rw [pl_i, rd_bs]
   have l2 : ∀ (b j : Nat), j + b = n + e → Ev (fun k => welch_equations.l2 k (bs w) (n : Int) (e : Int) (bss (rowsE w t n e i)) (bs (rghE w t e i)) (pl i).i (co w i).i (bs (tab e (fun j => co w i * pw (pl i) j) ++ tab j (fun j => pw (pl i) j))) t (t.length : Int) (i : Int) ((n + e : Nat) : Int) (j : Int)) (bss (rowsE w t n e w.length), bs (rghE w t e w.length)) := by
    intro b
    induction b with
    | zero =>
     intro j hj
     obtain rfl : j = n + e := by omega
     refine Ev.step (fun k => welch_equations.l2.eq_2 _ _ _ _ _ _ _ _ _ _ _ _ _ _) (Ev.neg (by omega) (Ev.pos (by rw [bss_length, rowsE_length]; omega) (Ev.bind (pow_ev _ _ he) (Ev.bind (mul_ev _ _) (Ev.pos (by rw [bs_length, rghE_length]; omega) ?_)))))
     rw [wrap_succ (by omega), bss_snoc]
     have e1 : bs (rghE w t e i) ++ [(co w i * pw (pl i) e).i] = bs (rghE w t e i ++ [rgE w e i]) := by rw [bs_append]; rfl
     rw [e1]
     exact h3
    | succ b ihb =>
     intro j hj
     refine Ev.step (fun k => welch_equations.l2.eq_2 _ _ _ _ _ _ _ _ _ _ _ _ _ _) (Ev.pos (by omega) (Ev.bind (pow_ev _ _ (by omega)) (Ev.pos (by rw [bs_length, List.length_append, tab_length, tab_length]; omega) ?_)))
     have e1 : bs (tab e (fun j => co w i * pw (pl i) j) ++ tab j (fun j => pw (pl i) j)) ++ [(pw (pl i) j).i] = bs (tab e (fun j => co w i * pw (pl i) j) ++ tab (j + 1) (fun j => pw (pl i) j)) := by
      rw [tab_succ, ← List.append_assoc, bs_append (_ ++ _)]
      rfl
     rw [e1, wrap_succ (by omega)]
     exact ihb (j + 1) (by omega)
   have l1 : ∀ (b j : Nat), j + b = e → Ev (fun k => welch_equations.l1 k (bs w) (n : Int) (e : Int) (bss (rowsE w t n e i)) (bs (rghE w t e i)) (pl i).i (co w i).i (bs (tab j (fun j => co w i * pw (pl i) j))) t (t.length : Int) (i : Int) (e : Int) (j : Int)) (bss (rowsE w t n e w.length), bs (rghE w t e w.length)) := by
    intro b
    induction b with
    | zero =>
     intro j hj
     obtain rfl : j = e := by omega
     refine Ev.step (fun k => welch_equations.l1.eq_2 _ _ _ _ _ _ _ _ _ _ _ _ _ _) (Ev.neg (by omega) ?_)
     have hw2 : wrap64 ((n : Int) + (j : Int)) = ((n + j : Nat) : Int) := by rw [wrap_sm (by omega) (by omega)]; omega
     rw [hw2]
     have := l2 (n + j) 0 (by omega)
     rw [tab_zero, List.append_nil] at this
     exact this
    | succ b ihb =>
     intro j hj
     refine Ev.step (fun k => welch_equations.l1.eq_2 _ _ _ _ _ _ _ _ _ _ _ _ _ _) (Ev.pos (by omega) (Ev.bind (pow_ev _ _ (by omega)) (Ev.bind (mul_ev _ _) (Ev.pos (by rw [bs_length, tab_length]; omega) ?_))))
     rw [tab_bs j (fun j => co w i * pw (pl i) j), wrap_succ (by omega)]
     exact ihb (j + 1) (by omega)
   exact l1 e 0 (by omega)
  ·rw [if_neg ht, if_neg ht] at h3
   refine Ev.neg ht ?_
   rw [wrap_succ (by omega)]
   exact h3
theorem equations_ev (w : List G) (t : List Bool) (n e : Nat) (hw : w.length ≤ 255) (hl : t.length = w.length) (hne : n + e ≤ 255) (he : e < 255) : Ev (fun k => welch_equations.f k (bs w) t (n : Int) (e : Int)) (bss (rowsE w t n e w.length), bs (rghE w t e w.length)) :=
 Ev.congr (fun k => welch_equations.f.eq_1 _ _ _ _ _) (equations_loops w t n e hw hl hne he w.length 0 (Nat.zero_add _))
theorem row_map (f : Nat → List G) (l : List Nat) (i : Nat) (h : i < l.length) : row (l.map f) i = f (l.getD i 0) := by
 simp [row, List.getD_eq_getElem?_getD, List.getElem?_map, List.getElem?_eq_getElem h]
theorem co_map (f : Nat → G) (l : List Nat) (i : Nat) (h : i < l.length) : co (l.map f) i = f (l.getD i 0) := by
 simp [co, List.getD_eq_getElem?_getD, List.getElem?_map, List.getElem?_eq_getElem h]
theorem rowsE_width (w : List G) (t : List Bool) (n e m : Nat) : Wd (rowsE w t n e m) (e + (n + e)) := by
 intro i hi
 rw [rowsE_length] at hi
 rw [rowsE, row_map _ _ _ hi, rowE_length]
theorem ev_snoc_one (a : List G) (x : G) : ev (a ++ [1]) x = ev a x + pw x a.length := by
 rw [ev_sum, ev_sum, List.length_append, List.length_singleton, sum_succ, co_append, if_neg (Nat.lt_irrefl _), Nat.sub_self]
 congr 1
 ·apply sum_congr
  intro i hi
  rw [co_append, if_pos hi]
 ·exact one_mul _
theorem add_swap {A Q B : G} : A + Q = B ↔ A + B = Q := by
 constructor
 ·rintro rfl
  rw [← add_assoc, add_self, zero_add]
 ·rintro rfl
  rw [← add_assoc, add_self, zero_add]
theorem rowE_dt (w : List G) (n e i : Nat) (x : List G) (hx : x.length = e + (n + e)) : dt (e + (n + e)) (co (rowE w n e i)) (co x) = co w i * ev (x.take e) (pl i) + ev (x.drop e) (pl i) := by
 unfold dt
 rw [sum_split, ev_sum, ev_sum, ← sum_mul, List.length_take, List.length_drop, hx, Nat.min_eq_left (by omega), show e + (n + e) - e = n + e by omega]
 congr 1
 ·apply sum_congr
  intro j hj
  rw [rowE, co_append, tab_length, if_pos hj, co_tab, if_pos hj, co_take, if_pos hj, mul_assoc, mul_comm (pw _ _)]
 ·apply sum_congr
  intro j hj
  rw [rowE, co_append, tab_length, if_neg (by omega), show e + j - e = j by omega, co_tab, if_pos hj, co_drop, mul_comm]
theorem solves_iff (w : List G) (t : List Bool) (n e : Nat) (x : List G) (hx : x.length = e + (n + e)) : tms (rowsE w t n e w.length) x = rghE w t e w.length ↔ Eqs w t (x.take e) (x.drop e) := by
 rw [tms_iff (rowsE_width _ _ _ _ _) hx (by rw [rghE_length, rowsE_length]), rowsE_length]
 have key : ∀ i, (co w i * ev (x.take e) (pl i) + ev (x.drop e) (pl i) = rgE w e i) ↔ co w i * ev (x.take e ++ [1]) (pl i) = ev (x.drop e) (pl i) := by
  intro i
  rw [ev_snoc_one, List.length_take, hx, Nat.min_eq_left (by omega), mul_add]
  exact add_swap
 constructor
 ·intro h i hi ht
  have hm : i ∈ F (thr t) w.length := F_mem.2 ⟨hi, ht⟩
  obtain ⟨k, hk, rfl⟩ := mem_getD.1 hm
  have := h k hk
  rw [rowsE, row_map _ _ _ hk, rghE, co_map _ _ _ hk, rowE_dt _ _ _ _ _ hx] at this
  exact (key _).1 this
 ·intro h k hk
  have hm : (F (thr t) w.length).getD k 0 ∈ F (thr t) w.length := mem_getD.2 ⟨k, hk, rfl⟩
  rw [F_mem] at hm
  rw [rowsE, row_map _ _ _ hk, rghE, co_map _ _ _ hk, rowE_dt _ _ _ _ _ hx]
  exact (key _).2 (h _ hm.1 hm.2)
theorem guess_any (w : List G) (t : List Bool) (n e : Nat) (hw : w.length ≤ 255) (hl : t.length = w.length) (hn : 1 ≤ n) (hc : 2 * e + n ≤ cnt t w.length) :
 ∃ r : List G, Ev (fun k => welch_guess.f k (bs w) t (n : Int) (e : Int)) (bs r) ∧ (r = [] ∨ r.length = n) ∧ ∀ p : List G, p.length ≤ n → dis w t p w.length ≤ e → r.length = n ∧ ∀ x, ev r x = ev p x := by
 have hcw := cnt_le t w.length
 have hwd := rowsE_width w t n e w.length
 have hlen := rowsE_length w t n e w.length
 have hwid : wid (rowsE w t n e w.length) = e + (n + e) := hwd 0 (by omega)
 have hM : Fit (rowsE w t n e w.length) := Fit.of (by omega) hwd (by omega)
 have hr : Rt (rowsE w t n e w.length) := by unfold Rt; rw [hwid]; exact hwd
 have hb : (rghE w t e w.length).length = (rowsE w t n e w.length).length := by rw [rghE_length, rowsE_length]
 have heq := equations_ev w t n e hw hl (by omega) (by omega)
 by_cases hok : okS (sv (rowsE w t n e w.length) (rghE w t e w.length) (e + (n + e))).1 (sv (rowsE w t n e w.length) (rghE w t e w.length) (e + (n + e))).2 (e + (n + e))
 ·have hs := solve_yes (rowsE w t n e w.length) (rghE w t e w.length) hM hr hb (by omega) (by rw [hwid]; exact hok)
  rw [hwid] at hs
  obtain ⟨x, hx⟩ : ∃ x, x = svx (rowsE w t n e w.length) (rghE w t e w.length) (e + (n + e)) := ⟨_, rfl⟩
  have hxl : x.length = e + (n + e) := by rw [hx, svx_length]
  have hE : Eqs w t (x.take e) (x.drop e) := by
   rw [← solves_iff w t n e x hxl, hx]
   exact sv_ok hwd hb hok
  rw [← hx] at hs
  have htl : (x.take e).length = e := by rw [List.length_take]; omega
  have hdl : (x.drop e).length = n + e := by rw [List.length_drop]; omega
  obtain ⟨u, r, hD, hu, hrt, hrl, hul, hall⟩ := divmod_ev (x.drop e) (x.take e ++ [1]) e (by rw [trim_monic, htl]) (by omega) (by rw [List.length_append, htl, List.length_singleton]; omega)
  have pre : ∀ R : List Int, Ev (fun k => (if r.length = 0 then (if ((bs u).length : Int) ≤ (n : Int) then (if 1 ≤ (n : Int) then (if (n : Int) < 140737488355328 then some (bs u ++ List.replicate (wrap64 ((n : Int) - ((bs u).length : Int))).toNat 0) else none) else none) else some []) else some [] : Option (List Int))) R → Ev (fun k => welch_guess.f k (bs w) t (n : Int) (e : Int)) R := by
   intro R hR
   refine Ev.congr (fun k => welch_guess.f.eq_1 _ _ _ _ _) (Ev.bind heq (Ev.bind hs (Ev.pos rfl (Ev.pos (by omega) (Ev.pos (by rw [bs_length]; omega) (Ev.pos (by rw [bs_length]; omega) ?_))))))
   have e1 : (bs x).take e ++ [1] = bs (x.take e ++ [1]) := by rw [bs_take, bs_append]; rfl
   rw [Int.toNat_natCast, bs_drop, e1]
   refine Ev.bind hD ?_
   dsimp only
   rw [bs_length r]
   exact hR
  have only : ∀ p : List G, p.length ≤ n → dis w t p w.length ≤ e → u = trim p ∧ r = [] := by
   intro p hp hd
   exact div_only (e := e) (by rw [trim_monic, htl]) hu hrt hrl hall (eqs_only hw hp (by omega) hd hc htl hdl hE)
  by_cases hr0 : r.length = 0
  ·by_cases hun : u.length ≤ n
   ·refine ⟨u ++ List.replicate (n - u.length) 0, pre _ (Ev.pos hr0 (Ev.pos (by rw [bs_length]; omega) (Ev.pos (by omega) (Ev.pos (by omega) ?_)))), .inr (by rw [List.length_append, List.length_replicate]; omega), fun p hp hd => ⟨by rw [List.length_append, List.length_replicate]; omega, fun y => ?_⟩⟩
    ·rw [bs_length, wrap_sm (by omega) (by omega), show ((n : Int) - (u.length : Int)).toNat = n - u.length by omega, bs_append, bs_replicate]
     exact Ev.now _
    ·rw [ev_pad, (only p hp hd).1, ev_trim]
   ·refine ⟨[], pre _ (Ev.pos hr0 (Ev.neg (by rw [bs_length]; omega) (Ev.now _))), .inl rfl, fun p hp hd => ?_⟩
    have := (only p hp hd).1
    have := trim_length_le p
    rw [← (only p hp hd).1] at this
    omega
  ·refine ⟨[], pre _ (Ev.neg hr0 (Ev.now _)), .inl rfl, fun p hp hd => ?_⟩
   rw [(only p hp hd).2] at hr0
   exact absurd rfl hr0
 ·have hs := solve_no (rowsE w t n e w.length) (rghE w t e w.length) hM hr hb (by omega) (by rw [hwid]; exact hok)
  refine ⟨[], Ev.congr (fun k => welch_guess.f.eq_1 _ _ _ _ _) (Ev.bind heq (Ev.bind hs (Ev.neg (by simp) (Ev.now _)))), .inl rfl, fun p hp hd => ?_⟩
  obtain ⟨a, q, ha, hq, hE⟩ := eqs_exist hp hd
  exfalso
  apply hok
  refine sv_of hwd (x := a ++ q) (by rw [List.length_append]; omega) hb ?_
  rw [solves_iff w t n e (a ++ q) (by rw [List.length_append]; omega), List.take_left' ha, List.drop_left' ha]
  exact hE
theorem dis_succ (w : List G) (t : List Bool) (p : List G) (m : Nat) : dis w t p (m + 1) = if thr t m = true ∧ ev p (pl m) ≠ co w m then dis w t p m + 1 else dis w t p m := by
 unfold dis
 rw [F_succ]
 by_cases h : thr t m = true ∧ ev p (pl m) ≠ co w m
 ·rw [if_pos h, if_pos (by simp [h.1, h.2])]
  simp
 ·rw [if_neg h, if_neg (by simpa using h)]
theorem values_l0 (w p : List G) (t : List Bool) (hw : w.length ≤ 300) (hl : t.length = w.length) (hp : p.length < 100000000000) (d : Nat) : ∀ (i : Nat) (o : List G), i + d = w.length → o.length = w.length → (∀ j, j < i → co o j = ev p (pl j)) →
 Ev (fun k => welch_values.l0 k (bs p) (bs w) t (bs o) (dis w t p i : Int) (w.length : Int) (i : Int)) (bs (vals p w.length), (dis w t p w.length : Int)) := by
 induction d with
 | zero =>
  intro i o hi ho h
  refine Ev.step (fun k => welch_values.l0.eq_2 _ _ _ _ _ _ _ _) (Ev.neg (by omega) ?_)
  have : o = vals p w.length := ext_co (by rw [vals_length, ho]) (fun j hj => by rw [h j (by omega), co_vals (by omega)])
  rw [this, show w.length = i by omega]
  exact Ev.now _
 | succ d ih =>
  intro i o hi ho h
  have hle : dis w t p i ≤ i := F_le _ _
  refine Ev.step (fun k => welch_values.l0.eq_2 _ _ _ _ _ _ _ _) (Ev.pos (by omega) ?_)
  rw [pl_i]
  refine Ev.bind (eval_ev _ _ hp) (Ev.pos (by omega) (Ev.pos (by rw [bs_length]; omega) (Ev.somef (Ev.pos (by omega) ?_))))
  rw [rdOf_thr, Int.toNat_natCast, bs_set, wrap_succ (show i < 4611686018427387904 by omega)]
  have h3 := ih (i + 1) (o.set i (ev p (pl i))) (by omega) (by rw [List.length_set]; exact ho) (fun j hj => by
   rw [co_set _ _ _ _ (by omega)]
   by_cases e : j = i
   ·rw [if_pos e, e]
   ·rw [if_neg e, h j (by omega)])
  rw [dis_succ] at h3
  by_cases ht : thr t i = true
  ·refine Ev.pos ht (Ev.pos (by rw [bs_length]; omega) ?_)
   rw [rd_bs, rd_bs, co_set _ _ _ _ (by omega), if_pos rfl]
   by_cases e : ev p (pl i) = co w i
   ·rw [if_neg (fun hh => hh.2 e)] at h3
    exact Ev.pos (by rw [e]) h3
   ·rw [if_pos ⟨ht, e⟩] at h3
    refine Ev.neg (by rw [i_inj]; exact e) ?_
    rw [wrap_succ (by omega)]
    exact h3
  ·rw [if_neg (fun hh => ht hh.1)] at h3
   exact Ev.neg ht h3
theorem values_ev (w p : List G) (t : List Bool) (hw : w.length ≤ 300) (hl : t.length = w.length) (hp : p.length < 100000000000) : Ev (fun k => welch_values.f k (bs p) (bs w) t) (bs (vals p w.length), (dis w t p w.length : Int)) := by
 refine Ev.congr (fun k => welch_values.f.eq_1 _ _ _ _) ?_
 rw [bs_length, Int.toNat_natCast, bs_replicate]
 refine Ev.pos (by omega) (Ev.pos (by omega) (Ev.somef ?_))
 rw [bs_length, List.length_replicate]
 exact values_l0 w p t hw hl hp w.length 0 _ (Nat.zero_add _) List.length_replicate (fun j hj => by omega)
theorem mostv_eq {t : List Bool} {n m : Nat} (hl : t.length = m) (hn : 1 ≤ n) (hc : n ≤ cnt t m) : mostv t (n : Int) = (((cnt t m - n) / 2 : Nat) : Int) := by
 subst hl
 unfold mostv
 rw [if_neg (by omega), if_neg (by omega)]
 omega
theorem mostv_less {t : List Bool} {n m : Nat} (hl : t.length = m) (hc : cnt t m < n) : mostv t (n : Int) = -1 := by
 subst hl
 unfold mostv
 by_cases h : (n : Int) < 1
 ·rw [if_pos h]
 ·rw [if_neg h, if_pos (by omega)]
theorem decode_pre (w : List G) (t : List Bool) (n : Nat) (hw : w.length ≤ 255) (hl : t.length = w.length) (hn : 1 ≤ n) (hnw : n ≤ w.length) {r : List Int × Int × Int}
 (h : Ev (fun k => (if mostv t (n : Int) < 0 then some ([], 0, 52) else ((welch_guess.f k (bs w) t (n : Int) (mostv t (n : Int))).bind fun p => if p = [] then some ([], 0, 52) else ((welch_values.f k p (bs w) t).bind fun v => if v.2 > mostv t (n : Int) then some ([], 0, 52) else some (v.1, v.2, 0))) : Option (List Int × Int × Int))) r) :
 Ev (fun k => welch_Decode.f k (bs w) t (n : Int)) r := by
 refine Ev.congr (fun k => welch_Decode.f.eq_1 _ _ _ _) (Ev.pos ?_ (Ev.bind (most_ev t _ (by omega)) h))
 rw [bs_length]
 exact ⟨by omega, by omega, by omega, hw⟩
theorem decode_yes (w : List G) (t : List Bool) (n : Nat) (p : List G) (hw : w.length ≤ 255) (hl : t.length = w.length) (hn : 1 ≤ n) (hnw : n ≤ w.length) (hg : Good w t n p) :
 Ev (fun k => welch_Decode.f k (bs w) t (n : Int)) (bs (vals p w.length), (dis w t p w.length : Int), 0) := by
 have hc : n ≤ cnt t w.length := by have := hg.2; omega
 refine decode_pre w t n hw hl hn hnw ?_
 rw [mostv_eq hl hn hc]
 obtain ⟨r, hr, _, hp⟩ := guess_any w t n ((cnt t w.length - n) / 2) hw hl hn (by omega)
 obtain ⟨hrl, hre⟩ := hp p hg.1 (by have := hg.2; omega)
 have hgr : Good w t n r := hg.of_ev (by omega) (fun x => (hre x).symm)
 obtain ⟨hv, hd⟩ := Good.vals hw hg hgr
 refine Ev.neg (by omega) (Ev.bind hr (Ev.neg (fun e => ?_) (Ev.bind (values_ev w r t (by omega) hl (by omega)) ?_)))
 ·have := congrArg List.length e
  rw [bs_length] at this
  simp at this
  rw [this] at hrl
  simp at hrl
  omega
 ·rw [hv, hd]
  exact Ev.neg (by have := hgr.2; dsimp only; omega) (Ev.now _)
theorem decode_no (w : List G) (t : List Bool) (n : Nat) (hw : w.length ≤ 255) (hl : t.length = w.length) (hn : 1 ≤ n) (hnw : n ≤ w.length) (hg : ∀ p, ¬ Good w t n p) : Ev (fun k => welch_Decode.f k (bs w) t (n : Int)) ([], 0, 52) := by
 refine decode_pre w t n hw hl hn hnw ?_
 by_cases hc : n ≤ cnt t w.length
 ·rw [mostv_eq hl hn hc]
  obtain ⟨r, hr, hr2, _⟩ := guess_any w t n ((cnt t w.length - n) / 2) hw hl hn (by omega)
  refine Ev.neg (by omega) (Ev.bind hr ?_)
  by_cases e : r = []
  ·rw [e]
   exact Ev.pos rfl (Ev.now _)
  ·have hrl : r.length = n := hr2.resolve_left e
   refine Ev.neg (fun h => e (bs_inj.1 h)) (Ev.bind (values_ev w r t (by omega) hl (by omega)) (Ev.pos ?_ (Ev.now _)))
   have := hg r
   have h2 : ¬ 2 * dis w t r w.length + n ≤ cnt t w.length := fun h => this ⟨by omega, h⟩
   dsimp only
   omega
 ·rw [mostv_less hl (by omega)]
  exact Ev.pos (by omega) (Ev.now _)
theorem decode_arg (w : List G) (t : List Bool) (n : Int) (h : ¬ (w.length = t.length ∧ May w n)) : Ev (fun k => welch_Decode.f k (bs w) t n) ([], 0, 1) := by
 refine Ev.congr (fun k => welch_Decode.f.eq_1 _ _ _ _) (Ev.neg (fun hh => h ?_) (Ev.now _))
 rw [bs_length] at hh
 exact ⟨hh.1, hh.2.1, hh.2.2.1, hh.2.2.2⟩
end Go.Proofs.Ytndljfagojnidaa.Al
namespace Go.Proofs.Ytndljfagojnidaa.P
open Go.RowKit Go.Proofs.YtndljfagojnidaaW.PrintWords Go.Proofs.YtndljfagojnidaaW.PrintLast Go.Proofs.YtndljfagojnidaaW.PrintMore
attribute [local go_sem] max2_int min2_int max_two min_two max_three min_three max_four min_four
set_option linter.unusedVariables false
set_option linter.unusedSimpArgs false
def footlockerref04_Of.l0 : Nat → List Int → Int → List Int → Int → Option (List Int)
 | 0, _, _, _, _ => none
 | k + 1, x0, x1, x5, x6 => if x6 < (x0.length : Int) then (if x5.length < 140737488355328 then (footlockerref04_Of.l0 k x0 x1 (x5 ++ [(x6) % 256]) (wrap64 (x6 + 1))) else (none)) else ((footlockerref04_Word.f k x5 x0 (wrap64 ((x0.length : Int) + x1))).bind fun t436 => (some t436))
def footlockerref04_Of.f (k : Nat) (l0 : List Int) (a1 : Int) : Option (List Int) := footlockerref04_Of.l0 k l0 a1 (([] : List Int)) 0
end Go.Proofs.Ytndljfagojnidaa.P
namespace Go.Proofs.Ytndljfagojnidaa.Al
open Go Go.RowKit Go.Proofs.YtndljfagojnidaaW.PrintWords Go.Proofs.YtndljfagojnidaaW.PrintMore Go.Proofs.Ytndljfagojnidaa.P
set_option linter.unusedVariables false
set_option linter.unusedSimpArgs false
theorem refword_l0 (p : List G) (m : Nat) (hp : p.length < 1000000) (hm : m < 1000000) (d : Nat) : ∀ n : Nat, n + d = m → Ev (fun f => footlockerref04_Word.l0 f (m : Int) (bs p) (bs (vals p n)) (n : Int)) (bs (vals p m)) := by
 induction d with
 | zero =>
  intro n hn
  obtain rfl : n = m := by omega
  exact Ev.step (fun k => footlockerref04_Word.l0.eq_2 _ _ _ _ _) (Ev.neg (by omega) (Ev.now _))
 | succ d ih =>
  intro n hn
  refine Ev.step (fun k => footlockerref04_Word.l0.eq_2 _ _ _ _ _) (Ev.pos (by omega) ?_)
  rw [pl_i]
  refine Ev.bind (refeval_ev _ _ (by omega)) (Ev.pos (by rw [bs_length, vals_length]; omega) ?_)
  rw [vals, tab_bs n (fun i => ev p (pl i)), wrap_succ (by omega)]
  exact ih (n + 1) (by omega)
theorem refword_ev (xs ys : List G) (m : Nat) (hd : xs.Nodup) (hl : xs.length = ys.length) (hx : xs.length < 1000) (hm : m < 1000000) : Ev (fun f => footlockerref04_Word.f f (bs xs) (bs ys) (m : Int)) (bs (vals (interp xs ys) m)) := by
 have := (interp_facts (ys := ys) hd).1
 exact Ev.congr (fun k => footlockerref04_Word.f.eq_1 _ _ _ _) (Ev.bind (refthrough_ev xs ys hd hl (by omega)) (refword_l0 _ m (by omega) hm m 0 (by omega)))
theorem of_l0 (d : List G) (k : Nat) (hd : d.length ≤ 256) (hk : k < 100000) (e : Nat) : ∀ n : Nat, n + e = d.length → Ev (fun f => footlockerref04_Of.l0 f (bs d) (k : Int) (bs (places n)) (n : Int)) (bs (word d k)) := by
 induction e with
 | zero =>
  intro n hn
  obtain rfl : n = d.length := by omega
  have hw : wrap64 (((bs d).length : Int) + (k : Int)) = ((d.length + k : Nat) : Int) := by rw [bs_length, wrap_sm (by omega) (by omega)]; omega
  refine Ev.step (fun k => footlockerref04_Of.l0.eq_2 _ _ _ _ _) (Ev.neg (by rw [bs_length]; omega) ?_)
  rw [hw]
  exact Ev.bind (refword_ev (places d.length) d (d.length + k) (places_nodup hd) (places_length _) (by rw [places_length]; omega) (by omega)) (Ev.now _)
 | succ e ih =>
  intro n hn
  refine Ev.step (fun k => footlockerref04_Of.l0.eq_2 _ _ _ _ _) (Ev.pos (by rw [bs_length]; omega) (Ev.pos (by rw [bs_length, places_length]; omega) ?_))
  rw [pl_i, places, tab_bs n pl, wrap_succ (by omega)]
  exact ih (n + 1) (by omega)
theorem of_ev (d : List G) (k : Nat) (hd : d.length ≤ 256) (hk : k < 100000) : Ev (fun f => footlockerref04_Of.f f (bs d) (k : Int)) (bs (word d k)) :=
 Ev.congr (fun k => footlockerref04_Of.f.eq_1 _ _ _) (of_l0 d k hd hk d.length 0 (by omega))
end Go.Proofs.Ytndljfagojnidaa.Al
namespace Go.Proofs.Ytndljfagojnidaa.Al
open Go Go.RowKit Go.Proofs.YtndljfagojnidaaW.PrintWords Go.Proofs.YtndljfagojnidaaW.PrintMore Go.Proofs.Ytndljfagojnidaa.P
set_option linter.unusedVariables false
set_option linter.unusedSimpArgs false
theorem alive_ev : Ev (fun k => footlockerlaw05_alive.f k) true :=
 Ev.of (fun k => footlockerlaw05_alive.mono k) (k := 60) (by decide +kernel)
theorem three (w : List G) (t : List Bool) (n : Int) {P : Prop} (h1 : ¬ (w.length = t.length ∧ May w n) → P)
 (h2 : ∀ (m : Nat) (p : List G), n = m → w.length ≤ 255 → t.length = w.length → 1 ≤ m → m ≤ w.length → Good w t m p → P)
 (h3 : ∀ (m : Nat), n = m → w.length ≤ 255 → t.length = w.length → 1 ≤ m → m ≤ w.length → (∀ p, ¬ Good w t m p) → P) : P := by
 by_cases h : w.length = t.length ∧ May w n
 ·obtain ⟨e, a, b, c⟩ := h
  obtain ⟨m, rfl⟩ : ∃ m : Nat, n = m := ⟨n.toNat, by omega⟩
  by_cases hg : ∃ p, Good w t m p
  ·obtain ⟨p, hp⟩ := hg
   exact h2 m p rfl c e.symm (by omega) (by omega) hp
  ·exact h3 m rfl c e.symm (by omega) (by omega) (fun p hp => hg ⟨p, hp⟩)
 ·exact h1 h
end Go.Proofs.Ytndljfagojnidaa.Al
namespace Go.Proofs.Ytndljfagojnidaa.Pure
open Go Go.RowKit Go.Proofs.YtndljfagojnidaaW.PrintWords Go.Proofs.YtndljfagojnidaaW.PrintMore Go.Proofs.Ytndljfagojnidaa.P Go.Proofs.Ytndljfagojnidaa.Al
set_option linter.unusedVariables false
set_option linter.unusedSimpArgs false
theorem once_l0 (w : List G) (t : List Bool) (n : Nat) (p : List G) (c : G) (hw : w.length ≤ 24) (hl : t.length = w.length) (hn : 1 ≤ n) (hnw : n ≤ w.length) (hg : Al.Good w t n p) (d : Nat) : ∀ (i : Nat) (o : List G), i + d = w.length → o.length = w.length → (∀ j, j < w.length → thr t j = true → co o j = co w j) →
 Ev (fun k => footlockerlaw05_WelchOnce.l0 k t (n : Int) c.i (bs (vals p w.length)) (dis w t p w.length : Int) (bs o) (w.length : Int) (i : Int)) true := by
 induction d with
 | zero =>
  intro i o hi ho h
  have hgo : Al.Good o t n p := (Good.congr (by omega) (fun j hj hj2 => (h j hj hj2).symm)).1 hg
  have hdo : dis o t p o.length = dis w t p w.length := by
   rw [ho]
   unfold dis
   rw [F_congr (m := w.length) (P := fun i => thr t i && decide (ev p (pl i) ≠ co o i)) (Q := fun i => thr t i && decide (ev p (pl i) ≠ co w i)) (fun j hj => by
    cases hj2 : thr t j with
    | false => rfl
    | true => rw [h j hj hj2])]
  have hd0 : dis (vals p w.length) t p w.length = 0 := by
   have : F (fun i => thr t i && decide (ev p (pl i) ≠ co (vals p w.length) i)) w.length = F (fun _ => false) w.length := F_congr (fun j hj => by rw [co_vals hj]; simp)
   unfold dis
   rw [this]
   unfold F
   simp
  have hgv : Al.Good (vals p w.length) t n p := ⟨hg.1, by rw [vals_length, hd0]; have := hg.2; omega⟩
  have h1 := decode_yes o t n p (by omega) (by omega) hn (by omega) hgo
  have h2 := decode_yes (vals p w.length) t n p (by rw [vals_length]; omega) (by rw [vals_length]; exact hl) hn (by rw [vals_length]; exact hnw) hgv
  rw [hdo, ho] at h1
  rw [vals_length, hd0] at h2
  have hlen : (bs (vals p w.length)).length < 1000000000000 := by rw [bs_length, vals_length]; omega
  refine Ev.step (fun k => footlockerlaw05_WelchOnce.l0.eq_2 _ _ _ _ _ _ _ _ _) (Ev.neg (by omega) (Ev.bind h1 (Ev.bind h2 (Ev.pos rfl (Ev.pos rfl (Ev.bind (same_true rfl hlen) (Ev.pos rfl (Ev.pos rfl (Ev.pos rfl ?_)))))))))
  refine Ev.bind (same_true rfl hlen) (Ev.pos rfl (Ev.bind (most_ev t _ (by omega)) ?_))
  have hc : n ≤ cnt t w.length := by have := hg.2; omega
  rw [mostv_eq hl hn hc]
  refine evc (Ev.now _) (decide_eq_true ?_)
  have := hg.2
  omega
 | succ d ih =>
  intro i o hi ho h
  refine Ev.step (fun k => footlockerlaw05_WelchOnce.l0.eq_2 _ _ _ _ _ _ _ _ _) (Ev.pos (by omega) (Ev.pos (by omega) (Ev.pos (by omega) ?_)))
  rw [rdOf_thr, wrap_succ (by omega)]
  by_cases ht : thr t i = true
  ·exact Ev.pos ht (ih (i + 1) o (by omega) ho h)
  ·refine Ev.neg ht (Ev.pos (by rw [bs_length]; omega) ?_)
   rw [rd_bs, xor_i, Int.toNat_natCast, bs_set]
   refine ih (i + 1) _ (by omega) (by rw [List.length_set]; exact ho) (fun j hj hj2 => ?_)
   rw [co_set _ _ _ _ (by omega), if_neg (fun e => ht (by rw [← e]; exact hj2))]
   exact h j hj hj2
theorem WelchOnce : footlockerlaw05_WelchOnce.Pure := by
 rintro l0 t n c ⟨_, h0⟩ _ hn hc
 obtain ⟨w, rfl⟩ := bytes_in h0
 obtain ⟨c, rfl⟩ := byte_in hc
 apply Ev.rounds
 refine Ev.congr (fun k => footlockerlaw05_WelchOnce.f.eq_1 _ _ _ _ _) (Ev.bind alive_ev (Ev.pos rfl ?_))
 by_cases h1 : ((bs w).length : Int) > 24
 ·exact Ev.pos h1 (Ev.now _)
 ·refine Ev.neg h1 ?_
  rw [bs_length] at h1
  refine three w t n (fun h => ?_) (fun m p hn hw2 hl h1 h2 hg => ?_) (fun m hn hw2 hl h1 h2 hg => ?_)
  ·exact Ev.bind (decode_arg w t n h) (Ev.neg (by decide) (Ev.pos rfl (Ev.now _)))
  ·subst hn
   refine Ev.bind (decode_yes w t m p hw2 hl h1 h2 hg) (Ev.pos rfl ?_)
   rw [copy_some _ (by rw [bs_length]; omega)]
   refine Ev.somef ?_
   dsimp only
   rw [bs_length]
   exact once_l0 w t m p c (by omega) hl h1 h2 hg w.length 0 w (Nat.zero_add _) rfl (fun j _ _ => rfl)
  ·subst hn
   exact Ev.bind (decode_no w t m hw2 hl h1 h2 hg) (Ev.neg (by decide) (Ev.pos rfl (Ev.now _)))
end Go.Proofs.Ytndljfagojnidaa.Pure
namespace Go.Proofs.Ytndljfagojnidaa.Q
open Go Go.RowKit Go.ChangeShapes Go.WideShapes Go.Proofs.YtndljfagojnidaaW.PrintWords
set_option linter.unusedVariables false
set_option linter.unusedSimpArgs false
def Opens {H : Type} (enc : TypeId × Value → H) (P : Program) (W : World) (base : Nat) (t : TypeId) {α : Type} (d : Kd α) (wf : α → Prop) : Prop :=
 ∀ (spare : Nat → Bool) (held : Bool) (fuel : Nat) (cs : List Value) (x : DataW H × List MemPlace), DataW.trod enc P W base spare held fuel t cs = some x → ∃ v : α, d.K W v cs ∧ wf v
section
variable {H : Type} {enc : TypeId × Value → H} {P : Program} {W : World} {base : Nat}
theorem opens_int {t : TypeId} {k : IntKind} (ht : P.underlying t = some (.int k)) : Opens enc P W base t (Kd.int k) (fun n => (Lit.int k n).wf = true) := by
 intro spare held fuel cs x h
 obtain ⟨n, rfl, _, hw⟩ := DataW.trod_int ht h
 exact ⟨n, rfl, hw⟩
theorem opens_bool {t : TypeId} (ht : P.underlying t = some .bool) : Opens enc P W base t Kd.bool (fun _ => True) := by
 intro spare held fuel cs x h
 obtain ⟨b, rfl, _⟩ := DataW.trod_bool ht h
 exact ⟨b, rfl, trivial⟩
theorem mapM_get {β γ : Type} {f : β → Option γ} : ∀ {l : List β} {cs : List γ}, l.mapM f = some cs → cs.length = l.length ∧ ∀ (i : Nat) (b : β), l[i]? = some b → f b = cs[i]? := by
 intro l
 induction l with
 | nil =>
  intro cs h
  simp at h
  subst h
  exact ⟨rfl, fun i b hb => by simp at hb⟩
 | cons a l ih =>
  intro cs h
  rw [List.mapM_cons] at h
  cases hf : f a with
  | none => simp [hf] at h
  | some y =>
   cases hm : l.mapM f with
   | none => simp [hf, hm] at h
   | some ys =>
    simp [hf, hm] at h
    subst h
    obtain ⟨h1, h2⟩ := ih hm
    refine ⟨by simp [h1], fun i b hb => ?_⟩
    cases i with
    | zero =>
     simp at hb
     subst hb
     simpa using hf
    | succ i =>
     simp at hb
     simpa using h2 i b hb
theorem cells_of {a : Addr} {n : Nat} {cs : List Value} (h : W.cells? base a n = some cs) : cs.length = n ∧ ∀ (i : Nat) (u : Value), cs[i]? = some u → W.cell? (a.add i) = some u := by
 unfold World.cells? at h
 split at h
 ·obtain ⟨h1, h2⟩ := mapM_get h
  rw [List.length_range] at h1
  refine ⟨h1, fun i u hu => ?_⟩
  have hi : i < n := by
   have := (List.getElem?_eq_some_iff.1 hu).1
   omega
  rw [h2 i i (by rw [List.getElem?_range hi]), hu]
 ·cases h
theorem opens_slice {t e : TypeId} {α : Type} {d : Kd α} {wf : α → Prop} (ht : P.underlying t = some (.slice e)) (hc : P.cellsOf e = d.sz) (hm : maxLen ≤ 9223372036854775807) (ho : Opens enc P W base e d wf) [Inhabited α] :
 Opens enc P W base t (Kd.slice e d) (fun xs => xs.length ≤ maxLen ∧ ∀ x ∈ xs, wf x) := by
 intro spare held fuel cs x h
 rcases Deep.open_slice ht h with ⟨rfl, _⟩ | ⟨a, len, cap, m, n, D, Pl, rfl, hb, hl, hcm, hmm, rfl, hx⟩
 ·exact ⟨[], ⟨none, 0, rfl, Nat.le_refl _, rfl, Nat.zero_le _, fun h => absurd h (by simp)⟩, Nat.zero_le _, fun x hx => by simp at hx⟩
 ·have hlm : len ≤ m := by rw [hmm]; split <;> omega
  obtain ⟨F, hF⟩ := Deep.choose_lt (α := α) (n := len) (p := fun i v => ∃ cs', d.K W v cs' ∧ cs'.length = d.sz ∧ (∀ j u, cs'[j]? = some u → W.cell? (a.add (i * d.sz + j)) = some u) ∧ wf v) (fun i hi => by
   obtain ⟨cs', h1, h2⟩ := hx i (by omega)
   obtain ⟨v, hv, hw⟩ := ho spare held n cs' _ h2
   rw [hc] at h1
   obtain ⟨h3, h4⟩ := cells_of h1
   refine ⟨v, cs', hv, h3, fun j u hu => ?_, hw⟩
   have := h4 j u hu
   rwa [Deep.add_add] at this)
  refine ⟨(List.range len).map F, ⟨some a, cap, by simp, by simpa using hl, by simp, by simp; omega, fun _ => ⟨a, rfl, fun j p hj => ?_⟩⟩, by simp; omega, fun x hx => ?_⟩
  ·have hjl : j < len := by
    have := (List.getElem?_eq_some_iff.1 hj).1
    simpa using this
   rw [List.getElem?_map, List.getElem?_range hjl] at hj
   simp at hj
   subst hj
   obtain ⟨cs', h1, h2, h3, _⟩ := hF j hjl
   exact ⟨cs', h2, h1, h3⟩
  ·rw [List.mem_map] at hx
   obtain ⟨i, hi, rfl⟩ := hx
   obtain ⟨_, _, _, _, hw⟩ := hF i (List.mem_range.1 hi)
   exact hw
theorem slice_arg {e : TypeId} {α : Type} {d : Kd α} {xs : List α} {a : Option Addr} {len cap : Nat} (h : (Kd.slice e d).K W xs (Value.cells (.slice a len cap)).toList) : len = xs.length ∧ xs.length ≤ cap ∧ d.C W a xs.length xs := by
 obtain ⟨A, c, hcs, hl, hC⟩ := h
 simp [Value.cells] at hcs
 obtain ⟨rfl, rfl, rfl⟩ := hcs
 exact ⟨rfl, hl, hC⟩
end
end Go.Proofs.Ytndljfagojnidaa.Q
