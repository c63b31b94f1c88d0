/- Of all pairs of rows the sum, the product, the quotient and rest, and values are as the document says; no further conditions. -/
import Derived.Test.YticcahcfpjghdaaL02
import Derived.Test.YticcahcfpjghdaaPx6
namespace Go.Proofs.Yticcahcfpjghdaa.Pure
open Go Go.RowKit Go.Proofs.YticcahcfpjghdaaW.PrintWords Go.Proofs.YticcahcfpjghdaaW.PrintMore Go.Proofs.Yticcahcfpjghdaa.P Go.Proofs.Yticcahcfpjghdaa.Al
set_option linter.unusedVariables false

theorem two_j1 (p q : List G) (hp : p.length ≤ 60) (hq : q.length ≤ 60) : Ev (fun k => footlockerlaw02_PolyTwo.j1 k (bs p) (bs q) (bs (trim p)) false) true := by
  refine Ev.step (fun k => footlockerlaw02_PolyTwo.j1.eq_2 _ _ _ _ _) (Ev.neg (by simp) ?_)
  have htq := trim_length_le q
  have htp := trim_length_le p
  cases hd : (trim q).length with
  | zero =>
    have hq0 : trim q = [] := List.eq_nil_of_length_eq_zero hd
    refine Ev.bind (divmod_none p q hq0 (by omega)) (Ev.bind (reftrim_ev q (by omega)) ?_)
    rw [hq0]
    exact Ev.pos rfl (Ev.neg (by simp) (Ev.pos rfl (Ev.now _)))
  | succ d =>
    obtain ⟨u, r, hE, hu, hr, hrl, hul, hall⟩ := divmod_ev p q d hd (by omega) (by omega)
    refine Ev.bind hE (Ev.bind (reftrim_ev q (by omega)) ?_)
    refine Ev.neg (by rw [bs_length]; omega) ?_
    dsimp only
    have h1 := pmul_len_le u (trim q) (by omega)
    refine Ev.bind (refpmul_ev u (trim q) (by omega) (by omega)) (Ev.bind (refadd_ev _ r (by omega) (by omega)) ?_)
    refine Ev.pos rfl (Ev.pos (by rw [bs_length, bs_length]; omega) ?_)
    have hback : padd (pmul u (trim q)) r = trim p := by
      apply trim_congr
      intro m
      rw [co_zadd, add_comm, hall m]
      congr 1
      rw [co_pmul, co_pmul]
      apply sum_congr
      intro j _
      rw [co_trim]
    have h2 := padd_length_le (pmul u (trim q)) r
    refine Ev.bind (same_true (by rw [hback]) (by rw [bs_length]; omega)) (Ev.pos rfl (Ev.bind (reftrim_ev u (by omega)) ?_))
    refine Ev.bind (same_true (by rw [hu]) (by rw [bs_length, hu]; omega)) (Ev.pos rfl (Ev.bind (reftrim_ev r (by omega)) ?_))
    exact Ev.bind (same_true (by rw [hr]) (by rw [bs_length, hr]; omega)) (Ev.now _)
theorem two_j0 (p q : List G) (x : G) (hp : p.length ≤ 60) (hq : q.length ≤ 60) : Ev (fun k => footlockerlaw02_PolyTwo.j0 k (bs p) (bs q) x.i false) true := by
  have htp := trim_length_le p
  refine Ev.step (fun k => footlockerlaw02_PolyTwo.j0.eq_2 _ _ _ _ _) (Ev.neg (by simp) ?_)
  refine Ev.bind (reftrim_ev p (by omega)) (Ev.bind (trim_ev p (by omega)) (Ev.bind (same_true rfl (by rw [bs_length]; omega)) (Ev.pos rfl ?_)))
  refine Ev.bind (degree_ev p (by omega)) (Ev.pos (by rw [bs_length, wrap_sm (by omega) (by omega)]) ?_)
  have h1 := padd_length_le p q
  refine Ev.bind (add_ev p q (by omega) (by omega)) (Ev.bind (refadd_ev p q (by omega) (by omega)) (Ev.bind (same_true rfl (by rw [bs_length]; omega)) (Ev.pos rfl ?_)))
  have h2 := trim_length_le (rmul p q)
  have h3 := rmul_length_le p q
  refine Ev.bind (pmul_ev p q (by omega) (by omega)) (Ev.bind (refpmul_ev p q (by omega) (by omega)) (Ev.bind (same_true rfl (by rw [bs_length]; show (trim (rmul p q)).length < _; omega)) (Ev.pos rfl ?_)))
  refine Ev.bind (eval_ev p x (by omega)) (Ev.bind (refeval_ev p x (by omega)) ?_)
  rw [bne_self_eq_false]
  exact two_j1 p q hp hq
theorem PolyTwo : footlockerlaw02_PolyTwo.Pure := by
  intro l0 l1 a2 _ _ h0 _ _ h1 h2
  obtain ⟨p, rfl⟩ := bytes_in h0
  obtain ⟨q, rfl⟩ := bytes_in h1
  obtain ⟨x, rfl⟩ := byte_in h2
  apply Ev.rounds
  refine Ev.congr (fun k => footlockerlaw02_PolyTwo.f.eq_1 _ _ _ _) (Ev.bind alive_ev (Ev.pos rfl ?_))
  have big : Ev (fun k => footlockerlaw02_PolyTwo.j0 k (bs p) (bs q) x.i true) true :=
    Ev.step (fun k => footlockerlaw02_PolyTwo.j0.eq_2 _ _ _ _ _) (Ev.pos rfl (Ev.now _))
  rw [bs_length, bs_length]
  by_cases hp : (p.length : Int) > 60
  · exact Ev.pos hp big
  · refine Ev.neg hp ?_
    by_cases hq : (q.length : Int) > 60
    · rw [decide_eq_true hq]
      exact big
    · rw [decide_eq_false hq]
      exact two_j0 p q x (by omega) (by omega)
end Go.Proofs.Yticcahcfpjghdaa.Pure
