/- The polynomial through values: the program's and the document's are those of the theory. Conditions: lengths that fit, as each theorem states them. -/
import Derived.Test.YtmdiggcefmkciaaP2
import Derived.Test.YtmdiggcefmkciaaPx1
import Derived.Test.YtmdiggcefmkciaaPx2
import Derived.Test.YtmdiggcefmkciaaPx3
import Derived.Test.YtmdiggcefmkciaaPx7
namespace Go.Proofs.Ytmdiggcefmkciaa.Al
open Go Go.RowKit Go.Proofs.YtmdiggcefmkciaaW.PrintWords Go.Proofs.YtmdiggcefmkciaaW.PrintMore Go.Proofs.Ytmdiggcefmkciaa.P
set_option linter.unusedVariables false
set_option linter.unusedSimpArgs false

/-! Scale -/
theorem scale_l0 (p : List G) (c : G) (hp : p.length < 100000000000) (d : Nat) : ∀ (o : List G) (n : Nat), n + d = p.length → o.length = p.length → (∀ j, j < n → co o j = c * co p j) →
    Ev (fun k => gf_Scale.l0 k c.i (bs o) (bs p) (p.length : Int) (n : Int)) (bs (scale c p)) := by
  induction d with
  | zero =>
    intro o n hn ho h
    refine Ev.step (fun k => gf_Scale.l0.eq_2 _ _ _ _ _ _) (Ev.neg (by omega) ?_)
    rw [show o = scale c p from ext_co (by rw [ho, scale_length]) (fun j hj => by rw [h j (by omega), co_scale])]
    exact Ev.now _
  | succ d ih =>
    intro o n hn ho h
    refine Ev.step (fun k => gf_Scale.l0.eq_2 _ _ _ _ _ _) (Ev.pos (by omega) (Ev.pos (by omega) (Ev.pos (by rw [bs_length]; omega) ?_)))
    rw [rd_bs]
    refine Ev.bind (mul_ev _ _) (Ev.pos (by rw [bs_length]; omega) ?_)
    rw [Int.toNat_natCast, bs_set, wrap_succ (by omega)]
    refine ih _ (n + 1) (by omega) (by rw [List.length_set]; exact ho) (fun j hj => ?_)
    rw [co_set _ _ _ _ (by omega)]
    by_cases e : j = n
    · rw [if_pos e, e, mul_comm]
    · rw [if_neg e, h j (by omega)]
theorem scale_ev (p : List G) (c : G) (hp : p.length < 100000000000) : Ev (fun k => gf_Scale.f k (bs p) c.i) (bs (scale c p)) := by
  refine Ev.congr (fun k => gf_Scale.f.eq_1 _ _ _) ?_
  rw [bs_length, Int.toNat_natCast, bs_replicate]
  exact Ev.pos (by omega) (Ev.pos (by omega) (scale_l0 p c hp p.length _ 0 (by omega) List.length_replicate (fun j hj => by omega)))

/-! unlike bytes -/
theorem twice_go (xs : List G) : ∀ seen : List G, poly_twice.go (bs seen) (bs xs) = some (decide (¬ (xs.Nodup ∧ ∀ x ∈ xs, x ∉ seen))) := by
  induction xs with
  | nil => intro seen; simp [bs, poly_twice.go]
  | cons a xs ih =>
    intro seen
    rw [bs_cons, poly_twice.go, if_pos (i_nonneg a), if_pos (i_lt a)]
    have hc : (bs seen).contains a.i = decide (a ∈ seen) := by
      rw [Bool.eq_iff_iff, List.contains_iff_mem, decide_eq_true_iff, bs, List.mem_map]
      constructor
      · rintro ⟨b, hb, e⟩
        rwa [← i_inj.1 e]
      · intro h
        exact ⟨a, h, rfl⟩
    rw [hc]
    by_cases h : a ∈ seen
    · rw [if_pos (by simpa using h), decide_eq_true]
      rintro ⟨_, h2⟩
      exact h2 a List.mem_cons_self h
    · rw [if_neg (by simpa using h), ← bs_cons, ih]
      congr 1
      rw [decide_eq_decide]
      apply not_congr
      rw [List.nodup_cons]
      constructor
      · rintro ⟨h1, h2⟩
        refine ⟨⟨fun ha => ?_, h1⟩, fun x hx => ?_⟩
        · exact h2 a ha List.mem_cons_self
        · rcases List.mem_cons.1 hx with rfl | hx
          · exact h
          · exact fun hs => h2 x hx (List.mem_cons_of_mem _ hs)
      · rintro ⟨⟨h1, h2⟩, h3⟩
        refine ⟨h2, fun x hx hs => ?_⟩
        rcases List.mem_cons.1 hs with rfl | hs
        · exact h1 hx
        · exact h3 x (List.mem_cons_of_mem _ hx) hs
theorem twice_some (xs : List G) : poly_twice.f (bs xs) = some (decide (¬ xs.Nodup)) := by
  have h := twice_go xs []
  rw [poly_twice.f, show ([] : List Int) = bs [] from rfl, h]
  congr 1
  rw [decide_eq_decide]
  simp
theorem nodup_co {xs : List G} : xs.Nodup ↔ ∀ a b, a < b → b < xs.length → co xs a ≠ co xs b := by
  rw [List.Nodup, List.pairwise_iff_getElem]
  constructor
  · intro h a b hab hb
    rw [co_lt (by omega), co_lt hb]
    exact h a b (by omega) hb hab
  · intro h a b ha hb hab
    have := h a b hab hb
    rwa [co_lt ha, co_lt hb] at this
/-! through values -/
def nst (xs ys : List G) : Nat → List G × List G
  | 0 => ([], [1])
  | n + 1 =>
    let s := nst xs ys n
    (padd s.1 (scale ((co ys n + ev s.1 (co xs n)) * inv (ev s.2 (co xs n))) s.2), pmul s.2 [co xs n, 1])
def interp (xs ys : List G) : List G := (nst xs ys xs.length).1
theorem ev_lin (a x : G) : ev [a, 1] x = a + x := by simp only [ev_cons, ev_nil, mul_zero, add_zero, mul_one]
theorem pmul_len_le (p q : List G) (h : 0 < q.length) : (pmul p q).length ≤ p.length + q.length - 1 := by
  apply trim_len_le_of
  intro j hj
  rw [← co_trim]
  exact co_pmul_ge (fun i hi => co_ge hi) (fun i hi => co_ge hi) (by omega)
theorem nst_facts (xs ys : List G) (hd : xs.Nodup) : ∀ n, n ≤ xs.length → (nst xs ys n).1.length ≤ n ∧ trim (nst xs ys n).1 = (nst xs ys n).1 ∧ (nst xs ys n).2.length ≤ n + 1 ∧
    (∀ j, j < n → ev (nst xs ys n).1 (co xs j) = co ys j) ∧ (∀ j, j < n → ev (nst xs ys n).2 (co xs j) = 0) ∧ (∀ x, (∀ j, j < n → x ≠ co xs j) → ev (nst xs ys n).2 x ≠ 0) := by
  intro n
  induction n with
  | zero =>
    intro _
    refine ⟨Nat.le_refl _, rfl, Nat.le_refl _, fun j hj => by omega, fun j hj => by omega, fun x _ => ?_⟩
    show ev [1] x ≠ 0
    rw [ev_cons, ev_nil, mul_zero, add_zero]
    exact one_ne_zero
  | succ n ih =>
    intro hn
    obtain ⟨h1, h2, h3, h4, h5, h6⟩ := ih (by omega)
    have hz : ev (nst xs ys n).2 (co xs n) ≠ 0 := h6 _ (fun j hj e => nodup_co.1 hd j n hj (by omega) e.symm)
    refine ⟨?_, trim_padd _ _, ?_, ?_, ?_, ?_⟩
    · refine Nat.le_trans (padd_length_le _ _) ?_
      rw [scale_length]
      omega
    · refine Nat.le_trans (pmul_len_le _ _ (by simp)) ?_
      simp only [List.length_cons, List.length_nil]
      omega
    · intro j hj
      show ev (padd _ _) _ = _
      rw [ev_padd, ev_scale]
      by_cases e : j = n
      · subst e
        rw [mul_assoc, inv_mul hz, mul_one, add_comm (co ys j), add_add_self]
      · rw [h5 j (by omega), mul_zero, add_zero, h4 j (by omega)]
    · intro j hj
      show ev (pmul _ _) _ = _
      rw [ev_pmul, ev_lin]
      by_cases e : j = n
      · rw [e, add_self, mul_zero]
      · rw [h5 j (by omega), zero_mul]
    · intro x hx
      show ev (pmul _ _) _ ≠ _
      rw [ev_pmul, ev_lin]
      refine mul_ne_zero (h6 x (fun j hj => hx j (by omega))) (fun e => ?_)
      exact hx n (by omega) (add_eq_zero.1 e).symm
theorem interp_facts {xs ys : List G} (hd : xs.Nodup) : (interp xs ys).length ≤ xs.length ∧ trim (interp xs ys) = interp xs ys ∧ ∀ j, j < xs.length → ev (interp xs ys) (co xs j) = co ys j := by
  obtain ⟨h1, h2, _, h4, _⟩ := nst_facts xs ys hd xs.length (Nat.le_refl _)
  exact ⟨h1, h2, h4⟩
theorem interp_unique {xs ys p : List G} (hd : xs.Nodup) (hp : p.length ≤ xs.length) (h : ∀ j, j < xs.length → ev p (co xs j) = co ys j) : trim p = interp xs ys := by
  obtain ⟨h1, h2, h3⟩ := interp_facts (ys := ys) hd
  rw [← h2]
  apply trim_congr
  apply same_of_values hd hp h1
  intro x hx
  obtain ⟨j, hj, rfl⟩ := List.getElem_of_mem hx
  rw [← co_lt hj, h j hj, h3 j hj]
theorem through_l0 (xs ys : List G) (hd : xs.Nodup) (hl : xs.length = ys.length) (hx : xs.length < 1000000000) (d : Nat) : ∀ n : Nat, n + d = xs.length →
    Ev (fun k => poly_Through.l0 k (bs ys) (bs (nst xs ys n).1) (bs (nst xs ys n).2) (bs xs) (xs.length : Int) (n : Int)) (bs (interp xs ys), 0) := by
  induction d with
  | zero =>
    intro n hn
    refine Ev.step (fun k => poly_Through.l0.eq_2 _ _ _ _ _ _ _) (Ev.neg (by omega) ?_)
    rw [interp, show xs.length = n by omega]
    exact Ev.now _
  | succ d ih =>
    intro n hn
    obtain ⟨h1, h2, h3, h4, h5, h6⟩ := nst_facts xs ys hd n (by omega)
    have hz : ev (nst xs ys n).2 (co xs n) ≠ 0 := h6 _ (fun j hj e => nodup_co.1 hd j n hj (by omega) e.symm)
    refine Ev.step (fun k => poly_Through.l0.eq_2 _ _ _ _ _ _ _) (Ev.pos (by omega) (Ev.pos (by omega) (Ev.pos (by rw [bs_length]; omega) (Ev.pos (by rw [bs_length]; omega) ?_))))
    rw [rd_bs, rd_bs]
    refine Ev.bind (eval_ev _ _ (by omega)) (Ev.bind (eval_ev _ _ (by omega)) ?_)
    rw [xor_i]
    refine Ev.bind (div_ev _ _ hz) ?_
    dsimp only
    refine Ev.bind (scale_ev _ _ (by omega)) (Ev.bind (add_ev _ _ (by omega) (by rw [scale_length]; omega)) ?_)
    refine Ev.bind (a := bs (pmul (nst xs ys n).2 [co xs n, 1])) (pmul_ev _ [co xs n, 1] (by omega) (by simp)) ?_
    rw [wrap_succ (by omega)]
    exact ih (n + 1) (by omega)
theorem through_ev (xs ys : List G) (hd : xs.Nodup) (hl : xs.length = ys.length) (hx : xs.length < 1000000000) : Ev (fun k => poly_Through.f k (bs xs) (bs ys)) (bs (interp xs ys), 0) := by
  refine Ev.congr (fun k => poly_Through.f.eq_1 _ _ _) (Ev.pos (by rw [bs_length, bs_length]; omega) ?_)
  rw [twice_some, decide_eq_false (by simpa using hd), bs_length]
  exact Ev.somef (Ev.neg (by simp) (through_l0 xs ys hd hl hx xs.length 0 (by omega)))
theorem through_twice (xs ys : List G) (hd : ¬ xs.Nodup) (hl : xs.length = ys.length) : Ev (fun k => poly_Through.f k (bs xs) (bs ys)) ([], 5) := by
  refine Ev.congr (fun k => poly_Through.f.eq_1 _ _ _) (Ev.pos (by rw [bs_length, bs_length]; omega) ?_)
  rw [twice_some, decide_eq_true hd]
  exact Ev.somef (Ev.pos rfl (Ev.now _))
theorem through_arg (xs ys : List G) (hl : xs.length ≠ ys.length) : Ev (fun k => poly_Through.f k (bs xs) (bs ys)) ([], 1) :=
  Ev.congr (fun k => poly_Through.f.eq_1 _ _ _) (Ev.neg (by rw [bs_length, bs_length]; omega) (Ev.now _))

/-! the document's way -/
theorem refthrough_loops (xs ys : List G) (hd : xs.Nodup) (hl : xs.length = ys.length) (hx : xs.length < 1000000000) (d : Nat) : ∀ (o : List G) (n : Nat), n + d = xs.length → o.length ≤ xs.length → trim o = o →
    (∀ j, j < xs.length → ev o (co xs j) = if j < n then co ys j else 0) → Ev (fun k => footlockerref02_Through.l0 k (bs xs) (bs ys) (bs o) (n : Int)) (bs (interp xs ys)) := by
  induction d with
  | zero =>
    intro o n hn ho ht h
    refine Ev.step (fun k => footlockerref02_Through.l0.eq_2 _ _ _ _ _) (Ev.neg (by rw [bs_length]; omega) ?_)
    rw [← interp_unique (ys := ys) hd ho (fun j hj => by rw [h j hj, if_pos (by omega)]), ht]
    exact Ev.now _
  | succ d ih =>
    intro o n hn ho ht h
    refine Ev.step (fun k => footlockerref02_Through.l0.eq_2 _ _ _ _ _) (Ev.pos (by rw [bs_length]; omega) ?_)
    have inner : ∀ (e : Nat) (one : List G) (below : G) (j : Nat), j + e = xs.length → one.length ≤ (if n < j then j else j + 1) → below ≠ 0 → ev one (co xs n) = below → (∀ a, a < j → a ≠ n → ev one (co xs a) = 0) →
        Ev (fun k => footlockerref02_Through.l1 k (bs xs) (bs ys) (bs o) (n : Int) (bs one) below.i (j : Int)) (bs (interp xs ys)) := by
      intro e
      induction e with
      | zero =>
        intro one below j hj h1 h2 h3 h4
        rw [if_pos (by omega)] at h1
        refine Ev.step (fun k => footlockerref02_Through.l1.eq_2 _ _ _ _ _ _ _ _) (Ev.neg (by rw [bs_length]; omega) (Ev.pos (by omega) (Ev.pos (by rw [bs_length]; omega) ?_)))
        refine Ev.bind (refinv_ev _) ?_
        rw [rd_bs]
        refine Ev.bind (refmul_ev _ _) (Ev.bind (a := bs (pmul one [co ys n * inv below])) (refpmul_ev one [co ys n * inv below] (by omega) (by simp)) ?_)
        have hpl := pmul_len_le one [co ys n * inv below] (by simp)
        simp only [List.length_cons, List.length_nil] at hpl
        refine Ev.bind (refadd_ev _ _ (by omega) (by omega)) ?_
        rw [wrap_succ (by omega)]
        refine ih _ (n + 1) (by omega) (Nat.le_trans (padd_length_le _ _) (by omega)) (trim_padd _ _) (fun a ha => ?_)
        rw [ev_padd, ev_pmul, h a ha, ev_cons, ev_nil, mul_zero, add_zero]
        by_cases e : a = n
        · subst e
          rw [if_neg (by omega), if_pos (by omega), h3, zero_add, mul_comm, mul_assoc, inv_mul h2, mul_one]
        · rw [h4 a (by omega) e, zero_mul, add_zero]
          by_cases h5 : a < n
          · rw [if_pos h5, if_pos (by omega)]
          · rw [if_neg h5, if_neg (by omega)]
      | succ e ihe =>
        intro one below j hj h1 h2 h3 h4
        refine Ev.step (fun k => footlockerref02_Through.l1.eq_2 _ _ _ _ _ _ _ _) (Ev.pos (by rw [bs_length]; omega) ?_)
        by_cases ej : j = n
        · subst ej
          refine Ev.pos rfl ?_
          rw [wrap_succ (by omega)]
          refine ihe one below (j + 1) (by omega) ?_ h2 h3 (fun a ha hne => h4 a (by omega) hne)
          rw [if_pos (by omega)]
          rw [if_neg (by omega)] at h1
          exact h1
        · have hlen : one.length ≤ j + 1 := by split at h1 <;> omega
          refine Ev.neg (by omega) (Ev.pos (by omega) ?_)
          rw [rd_bs, rd_bs]
          refine Ev.bind (a := bs (pmul one [co xs j, 1])) (refpmul_ev one [co xs j, 1] (by omega) (by simp)) (Ev.pos (by omega) (Ev.pos (by rw [bs_length]; omega) ?_))
          rw [xor_i]
          refine Ev.bind (refmul_ev _ _) ?_
          rw [wrap_succ (by omega)]
          have hne : co xs n + co xs j ≠ 0 := by
            intro e0
            have e1 := add_eq_zero.1 e0
            rcases Nat.lt_or_gt_of_ne ej with h5 | h5
            · exact nodup_co.1 hd j n h5 (by omega) e1.symm
            · exact nodup_co.1 hd n j h5 (by omega) e1
          have hpl := pmul_len_le one [co xs j, 1] (by simp)
          simp only [List.length_cons, List.length_nil] at hpl
          refine ihe _ _ (j + 1) (by omega) ?_ (mul_ne_zero h2 hne) ?_ ?_
          · by_cases h5 : n < j
            · rw [if_pos h5] at h1
              rw [if_pos (by omega)]
              omega
            · rw [if_neg h5] at h1
              rw [if_neg (by omega)]
              omega
          · rw [ev_pmul, h3, ev_lin, add_comm (co xs j)]
          · intro a ha hne'
            rw [ev_pmul, ev_lin]
            by_cases ea : a = j
            · rw [ea, add_self, mul_zero]
            · rw [h4 a (by omega) hne', zero_mul]
    refine inner xs.length [1] 1 0 (by omega) (by simp) one_ne_zero ?_ (fun a ha => by omega)
    rw [ev_cons, ev_nil, mul_zero, add_zero]
theorem refthrough_ev (xs ys : List G) (hd : xs.Nodup) (hl : xs.length = ys.length) (hx : xs.length < 1000000000) : Ev (fun k => footlockerref02_Through.f k (bs xs) (bs ys)) (bs (interp xs ys)) :=
  Ev.congr (fun k => footlockerref02_Through.f.eq_1 _ _ _) (refthrough_loops xs ys hd hl hx xs.length [] 0 (by omega) (by simp) rfl (fun j hj => by rw [if_neg (by omega)]; rfl))
end Go.Proofs.Ytmdiggcefmkciaa.Al
