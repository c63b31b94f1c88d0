/- Of all rows and right sides what is solved, or that there is nothing, is as the document says. Conditions: those of the statement. -/
import Derived.Test.YtanknpdibjfmlaaR4
import Derived.Test.YtanknpdibjfmlaaL03
import Derived.Test.YtanknpdibjfmlaaPx12
namespace Go.Proofs.Ytanknpdibjfmlaa.Pure
open Go Go.RowKit Go.Proofs.YtanknpdibjfmlaaW.PrintWords Go.Proofs.YtanknpdibjfmlaaW.PrintMore Go.Proofs.Ytanknpdibjfmlaa.P Go.Proofs.Ytanknpdibjfmlaa.Al
set_option linter.unusedVariables false
set_option linter.unusedSimpArgs false
theorem solves_j0 (M : List (List G)) (b : List G) (hF : Few M) : Ev (fun k => footlockerlaw03_LinearSolves.j0 k (bss M) (bs b) false) true := by
  have hM := hF.fit
  have h1 := hM.1
  have hw := hF.wid
  refine Ev.step (fun k => footlockerlaw03_LinearSolves.j0.eq_2 _ _ _ _) (Ev.neg (by simp) ?_)
  have tail : ∀ (r : List Int × Bool), r.1.length < 1000000 → Ev (fun k => linear_Solve.f k (bss M) (bs b)) r → Ev (fun k => footlockerref03_Solve.f k (bss M) (bs b)) r →
      Ev (fun k => (linear_Solve.f k (bss M) (bs b)).bind fun bt337 => ((footlockerref03_Solve.f k (bss M) (bs b)).bind fun bt341 => (if (bt337.2 == bt341.2) = true then ((footlockerref01_Same.f k bt337.1 bt341.1).bind fun t345 => (some t345)) else (some false)))) true := by
    intro r hr h2 h3
    exact Ev.bind h2 (Ev.bind h3 (Ev.pos (by simp) (Ev.bind (same_true rfl (by omega)) (Ev.now _))))
  by_cases hc : Rt M ∧ M.length = b.length
  · obtain ⟨hr, hb⟩ := hc
    have hs := refsolve_ev M b hM hr hb.symm (by omega)
    by_cases hok : okS (sv M b (wid M)).1 (sv M b (wid M)).2 (wid M)
    · rw [if_pos (sv_ok hr hb.symm hok)] at hs
      exact tail _ (by dsimp only; rw [bs_length, svx_length]; omega) (solve_yes M b hM hr hb.symm (by omega) hok) hs
    · rw [if_neg (fun e => hok (sv_of hr (svx_length _ _ _) hb.symm e))] at hs
      exact tail _ (by decide) (solve_no M b hM hr hb.symm (by omega) hok) hs
  · exact tail _ (by decide) (solve_arg M b hc) (refsolve_arg M b h1 hc)
theorem LinearSolves : footlockerlaw03_LinearSolves.Pure := by
  rintro l0 x ⟨hl, h0⟩ ⟨_, hx⟩
  obtain ⟨M, rfl⟩ := rows_in l0 (fun y hy => (h0 y hy).2)
  obtain ⟨x, rfl⟩ := bytes_in hx
  apply Ev.rounds
  obtain ⟨b, hs, hb⟩ := small_ev M (len_in (by rw [bss_length] at hl; exact hl))
  have big : Ev (fun k => footlockerlaw03_LinearSolves.j0 k (bss M) (bs x) true) true := Ev.step (fun k => footlockerlaw03_LinearSolves.j0.eq_2 _ _ _ _) (Ev.pos rfl (Ev.now _))
  refine Ev.congr (fun k => footlockerlaw03_LinearSolves.f.eq_1 _ _ _) (Ev.bind alive_ev (Ev.pos rfl (Ev.bind hs ?_)))
  cases b with
  | false => exact Ev.neg (by simp) big
  | true =>
    refine Ev.pos rfl ?_
    cases decide (((bs x).length : Int) > 30) with
    | true => exact big
    | false => exact solves_j0 M x (hb rfl)
end Go.Proofs.Ytanknpdibjfmlaa.Pure
