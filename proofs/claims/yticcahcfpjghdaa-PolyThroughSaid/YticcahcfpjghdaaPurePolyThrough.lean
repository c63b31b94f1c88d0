/- Of all places and values the polynomial through them, or the error, is as the document says; no further conditions. -/
import Derived.Test.YticcahcfpjghdaaL02
import Derived.Test.YticcahcfpjghdaaPx7
namespace Go.Proofs.Yticcahcfpjghdaa.Pure
open Go Go.RowKit Go.Proofs.YticcahcfpjghdaaW.PrintWords Go.Proofs.YticcahcfpjghdaaW.PrintMore Go.Proofs.Yticcahcfpjghdaa.P Go.Proofs.Yticcahcfpjghdaa.Al
set_option linter.unusedVariables false

theorem through_j0 (xs ys : List G) (hx : xs.length ≤ 30) : Ev (fun k => footlockerlaw02_PolyThrough.j0 k (bs xs) (bs ys) false) true := by
  refine Ev.step (fun k => footlockerlaw02_PolyThrough.j0.eq_2 _ _ _ _) (Ev.neg (by simp) ?_)
  by_cases hl : xs.length = ys.length
  · by_cases hd : xs.Nodup
    · refine Ev.bind (through_ev xs ys hd hl (by omega)) (Ev.pos (by rw [bs_length, bs_length, hl]) (Ev.bind (unlike_ev xs (by omega)) (Ev.pos (decide_eq_true hd) (Ev.pos rfl ?_))))
      have := (interp_facts (ys := ys) hd).1
      exact Ev.bind (refthrough_ev xs ys hd hl (by omega)) (Ev.bind (same_true rfl (by dsimp only; rw [bs_length]; omega)) (Ev.now _))
    · exact Ev.bind (through_twice xs ys hd hl) (Ev.pos (by rw [bs_length, bs_length, hl]) (Ev.bind (unlike_ev xs (by omega)) (Ev.neg (by simpa using hd) (Ev.pos rfl (Ev.now _)))))
  · exact Ev.bind (through_arg xs ys hl) (Ev.neg (by rw [bs_length, bs_length]; omega) (Ev.pos rfl (Ev.now _)))
theorem PolyThrough : footlockerlaw02_PolyThrough.Pure := by
  intro l0 l1 _ _ h0 _ _ h1
  obtain ⟨p, rfl⟩ := bytes_in h0
  obtain ⟨q, rfl⟩ := bytes_in h1
  apply Ev.rounds
  refine Ev.congr (fun k => footlockerlaw02_PolyThrough.f.eq_1 _ _ _) (Ev.bind alive_ev (Ev.pos rfl ?_))
  have big : Ev (fun k => footlockerlaw02_PolyThrough.j0 k (bs p) (bs q) true) true :=
    Ev.step (fun k => footlockerlaw02_PolyThrough.j0.eq_2 _ _ _ _) (Ev.pos rfl (Ev.now _))
  rw [bs_length, bs_length]
  by_cases hp : (p.length : Int) > 30
  · exact Ev.pos hp big
  · refine Ev.neg hp ?_
    by_cases hq : (q.length : Int) > 30
    · rw [decide_eq_true hq]
      exact big
    · rw [decide_eq_false hq]
      exact through_j0 p q (by omega)
end Go.Proofs.Yticcahcfpjghdaa.Pure
