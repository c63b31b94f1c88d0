/- Of all rows what they are reduced to, the pivots, the rank, and sums of products are as the document says. Conditions: those of the statement. -/
import Derived.Test.YtanknpdibjfmlaaR4
import Derived.Test.YtanknpdibjfmlaaL03
import Derived.Test.YtanknpdibjfmlaaPx10
namespace Go.Proofs.Ytanknpdibjfmlaa.Pure
open Go Go.RowKit Go.Proofs.YtanknpdibjfmlaaW.PrintWords Go.Proofs.YtanknpdibjfmlaaW.PrintMore Go.Proofs.Ytanknpdibjfmlaa.P Go.Proofs.Ytanknpdibjfmlaa.Al
set_option linter.unusedVariables false
set_option linter.unusedSimpArgs false
theorem reduces_j0 (M : List (List G)) (a : Int) (x : List G) (hF : Few M) : Ev (fun k => footlockerlaw03_LinearReduces.j0 k (bss M) a (bs x) false) true := by
  have hM := hF.fit
  have h1 := hM.1
  refine Ev.step (fun k => footlockerlaw03_LinearReduces.j0.eq_2 _ _ _ _ _) (Ev.neg (by simp) ?_)
  have tail : ∀ p : List Int, p.length < 1000000 → ∀ n m : Int, n = m → Ev (fun k => linear_Rank.f k (bss M)) n →
      Ev (fun k => (footlockerref01_SameInts.f k p p).bind fun t283 => (if t283 = true then ((linear_Rank.f k (bss M)).bind fun t284 => (if t284 = m then ((linear_Times.f k (bss M) (bs x)).bind fun t285 => ((footlockerref03_Times.f k (bss M) (bs x)).bind fun t288 => ((footlockerref01_Same.f k t285 t288).bind fun t291 => (some t291)))) else (some false))) else (some false))) true := by
    intro p hp n m hnm hr
    refine Ev.bind (sameI_ev p hp) (Ev.pos rfl (Ev.bind hr (Ev.pos hnm (Ev.bind (times_ev M x hM) (Ev.bind (reftimes_ev M x hM) (Ev.bind (same_true rfl (by rw [bs_length, tms_length]; omega)) (Ev.now _)))))))
  by_cases hr : Rt M
  · have h20 : cols 20 (wid M) = wid M := by
      have := hF.wid
      unfold cols
      omega
    refine Ev.bind (reduce_ev M a hM hr) (Ev.bind (refreduce_ev M a hM hr) (Ev.bind (refreduce_ev M 20 hM hr) ?_))
    rw [right_some]
    refine Ev.somef (Ev.bind (refright_ev M h1) (Ev.pos (by simp) ?_))
    have hRw := reduce_width (cols a (wid M)) hr
    refine Ev.bind (sameR_ev _ (Fit.of (by rw [reduce_length]; exact h1) hRw hM.wid)) (Ev.pos rfl ?_)
    have hle := (reduce_RF M (cols a (wid M))).len
    rw [reduce_length] at hle
    dsimp only
    rw [h20, psI_length]
    exact tail _ (by rw [psI_length]; omega) _ _ rfl (rank_ev M hM hr)
  · refine Ev.bind (reduce_no M a hr) (Ev.bind (refreduce_no M a h1 hr) (Ev.bind (refreduce_no M 20 h1 hr) ?_))
    rw [right_some]
    refine Ev.somef (Ev.bind (refright_ev M h1) (Ev.pos (by simp) ?_))
    refine Ev.bind (sameR_ev [] ⟨by decide, fun i hi => absurd hi (Nat.not_lt_zero _)⟩) (Ev.pos rfl ?_)
    exact tail [] (by decide) _ _ rfl (rank_no M hr)
theorem LinearReduces : footlockerlaw03_LinearReduces.Pure := by
  rintro l0 a x ⟨hl, h0⟩ ha ⟨_, hx⟩
  obtain ⟨M, rfl⟩ := rows_in l0 (fun y hy => (h0 y hy).2)
  obtain ⟨x, rfl⟩ := bytes_in hx
  apply Ev.rounds
  obtain ⟨b, hs, hb⟩ := small_ev M (len_in (by rw [bss_length] at hl; exact hl))
  have big : Ev (fun k => footlockerlaw03_LinearReduces.j0 k (bss M) a (bs x) true) true := Ev.step (fun k => footlockerlaw03_LinearReduces.j0.eq_2 _ _ _ _ _) (Ev.pos rfl (Ev.now _))
  refine Ev.congr (fun k => footlockerlaw03_LinearReduces.f.eq_1 _ _ _ _) (Ev.bind alive_ev (Ev.pos rfl (Ev.bind hs ?_)))
  cases b with
  | false => exact Ev.neg (by simp) big
  | true =>
    refine Ev.pos rfl ?_
    cases decide (((bs x).length : Int) > 30) with
    | true => exact big
    | false => exact reduces_j0 M a x (hb rfl)
end Go.Proofs.Ytanknpdibjfmlaa.Pure
