/- A right side that something comes to is solved, by something that comes to it, too; where nothing is told nothing that is handed in comes to it. Conditions: those of the statement. -/
import Derived.Test.YtanknpdibjfmlaaR4
import Derived.Test.YtanknpdibjfmlaaL03
import Derived.Test.YtanknpdibjfmlaaPx12
namespace Go.Proofs.Ytanknpdibjfmlaa.Pure
open Go Go.RowKit Go.Proofs.YtanknpdibjfmlaaW.PrintWords Go.Proofs.YtanknpdibjfmlaaW.PrintMore Go.Proofs.Ytanknpdibjfmlaa.P Go.Proofs.Ytanknpdibjfmlaa.Al
set_option linter.unusedVariables false
set_option linter.unusedSimpArgs false
theorem finds_j0 (M : List (List G)) (x b : List G) (hF : Few M) (hr : Rt M) (hx : x.length = wid M) : Ev (fun k => footlockerlaw03_LinearFinds.j0 k (bss M) (bs x) (bs b) false) true := by
  have hM := hF.fit
  have h1 := hM.1
  have hw := hF.wid
  have hl : ∀ y, (bs (tms M y)).length < 1000000000000 := fun y => by rw [bs_length, tms_length]; omega
  refine Ev.step (fun k => footlockerlaw03_LinearFinds.j0.eq_2 _ _ _ _ _) (Ev.neg (by simp) (Ev.bind (times_ev M x hM) ?_))
  have hok := sv_of hr hx (tms_length M x) rfl
  refine Ev.bind (solve_yes M _ hM hr (tms_length M x) (by omega) hok) (Ev.pos rfl (Ev.bind (times_ev M _ hM) (Ev.bind (same_true (by rw [sv_ok hr (tms_length M x) hok]) (hl _)) ?_)))
  refine Ev.step (fun k => footlockerlaw03_LinearFinds.j1.eq_2 _ _ _ _ _) (Ev.neg (by simp) ?_)
  have no : Ev (fun k => linear_Solve.f k (bss M) (bs b)) ([], false) → tms M x ≠ b → Ev (fun k => (linear_Solve.f k (bss M) (bs b)).bind fun bt361 => (if bt361.2 = true then ((linear_Times.f k (bss M) bt361.1).bind fun t365 => ((footlockerref01_Same.f k t365 (bs b)).bind fun t368 => (some t368))) else ((footlockerref01_Same.f k (bs (tms M x)) (bs b)).bind fun t369 => (some (!t369))))) true := by
    intro h2 hne
    have h3 := same_ev (bs (tms M x)) (bs b) (hl x)
    rw [decide_eq_false (by rw [bs_inj]; exact hne)] at h3
    exact Ev.bind h2 (Ev.neg (by simp) (Ev.bind h3 (Ev.now _)))
  by_cases hb : b.length = M.length
  · by_cases hok2 : okS (sv M b (wid M)).1 (sv M b (wid M)).2 (wid M)
    · exact Ev.bind (solve_yes M b hM hr hb (by omega) hok2) (Ev.pos rfl (Ev.bind (times_ev M _ hM) (Ev.bind (same_true (by rw [sv_ok hr hb hok2]) (hl _)) (Ev.now _))))
    · exact no (solve_no M b hM hr hb (by omega) hok2) (fun e => hok2 (sv_of hr hx hb e))
  · exact no (solve_arg M b (fun h => hb h.2.symm)) (fun e => hb (by rw [← e, tms_length]))
theorem LinearFinds : footlockerlaw03_LinearFinds.Pure := by
  rintro l0 x y ⟨hl, h0⟩ ⟨_, hx⟩ ⟨_, hy⟩
  obtain ⟨M, rfl⟩ := rows_in l0 (fun y hy => (h0 y hy).2)
  obtain ⟨x, rfl⟩ := bytes_in hx
  obtain ⟨y, rfl⟩ := bytes_in hy
  apply Ev.rounds
  obtain ⟨b, hs, hb⟩ := small_ev M (len_in (by rw [bss_length] at hl; exact hl))
  have big : Ev (fun k => footlockerlaw03_LinearFinds.j0 k (bss M) (bs x) (bs y) true) true := Ev.step (fun k => footlockerlaw03_LinearFinds.j0.eq_2 _ _ _ _ _) (Ev.pos rfl (Ev.now _))
  refine Ev.congr (fun k => footlockerlaw03_LinearFinds.f.eq_1 _ _ _ _) (Ev.bind alive_ev (Ev.pos rfl (Ev.bind hs ?_)))
  cases b with
  | false => exact Ev.neg (by simp) big
  | true =>
    have hF := hb rfl
    refine Ev.pos rfl (Ev.bind (refright_ev M hF.fit.1) ?_)
    by_cases hr : Rt M
    · refine Ev.pos (decide_eq_true hr) ?_
      rw [bss_length, bs_length, rd_bss0, bs_length]
      by_cases h0 : (M.length : Int) = 0
      · exact Ev.pos h0 big
      · refine Ev.neg h0 (Ev.pos (by omega) ?_)
        by_cases hxl : x.length = wid M
        · rw [show ((x.length : Int) != ((row M 0).length : Int)) = false by unfold wid at hxl; simp [hxl]]
          exact finds_j0 M x y hF hr hxl
        · rw [show ((x.length : Int) != ((row M 0).length : Int)) = true by unfold wid at hxl; simp; omega]
          exact big
    · exact Ev.neg (by simpa using hr) big
end Go.Proofs.Ytanknpdibjfmlaa.Pure
