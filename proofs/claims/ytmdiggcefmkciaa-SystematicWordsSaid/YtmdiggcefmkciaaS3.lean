/- How the document fills a word is as the program does. Conditions: as each theorem states them. -/
import Derived.Test.YtmdiggcefmkciaaS2
import Derived.Test.YtmdiggcefmkciaaPx7
import Derived.Test.YtmdiggcefmkciaaPx8
namespace Go.Proofs.Ytmdiggcefmkciaa.Al
open Go Go.RowKit Go.Proofs.YtmdiggcefmkciaaW.PrintWords Go.Proofs.YtmdiggcefmkciaaW.PrintMore Go.Proofs.Ytmdiggcefmkciaa.P
set_option linter.unusedVariables false
set_option linter.unusedSimpArgs false

theorem refmay_some (w : List G) (n : Int) : footlockerref04_May.f (bs w) n = some (decide (May w n)) := may_some w n
theorem count_le (there : List Bool) (m : Nat) : count there m ≤ m := by
  induction m with
  | zero => exact Nat.le_refl _
  | succ m ih => simp only [count]; split <;> omega
theorem reffill_l0 (w : List G) (there : List Bool) (n : Nat) (hw : w.length ≤ 255) (hl : w.length = there.length) (r : List Int × Int)
    (hr : r = if (firstN there n w.length).length < n then ([], 52) else (bs (filled w there n), 0)) (d : Nat) : ∀ i : Nat, i + d = w.length →
    Ev (fun f => footlockerref04_Fill.l0 f (bs w) there (n : Int) (bs (fxs there n i)) (bs (fys w there n i)) (i : Int)) r := by
  induction d with
  | zero =>
    intro i hi
    obtain rfl : i = w.length := by omega
    have hc : (firstN there n w.length).length ≤ w.length := by
      rw [firstN_count]
      have := count_le there w.length
      omega
    refine Ev.step (fun k => footlockerref04_Fill.l0.eq_2 _ _ _ _ _ _ _) (Ev.neg (by rw [bs_length]; omega) ?_)
    rw [bs_length, fxs_length]
    by_cases h : (firstN there n w.length).length < n
    · rw [if_pos h] at hr
      subst hr
      exact Ev.pos (by omega) (Ev.now _)
    · rw [if_neg h] at hr
      subst hr
      have hd := fxs_nodup there n w.length (by omega)
      rw [bs_length]
      exact Ev.neg (by omega) (Ev.bind (refword_ev _ _ w.length hd (by rw [fxs_length, fys_length]) (by rw [fxs_length]; omega) (by omega)) (Ev.now _))
  | succ d ih =>
    intro i hi
    have h := ih (i + 1) (by omega)
    refine Ev.step (fun k => footlockerref04_Fill.l0.eq_2 _ _ _ _ _ _ _) (Ev.pos (by rw [bs_length]; omega) (Ev.pos (by omega) (Ev.pos (by omega) ?_)))
    rw [rdOf_nat, wrap_succ (by omega), bs_length, fxs_length]
    have hfx : (firstN there n i).length ≤ i := by
      rw [firstN_count]
      have := count_le there i
      omega
    by_cases ht : there.getD i false = true
    · refine Ev.pos ht ?_
      by_cases hlt : (firstN there n i).length < n
      · have e1 : firstN there n (i + 1) = firstN there n i ++ [i] := by simp only [firstN]; rw [if_pos ⟨ht, hlt⟩]
        refine Ev.pos (by omega) (Ev.pos (by omega) (Ev.pos (by rw [bs_length, fys_length]; omega) ?_))
        rw [pl_i, rd_bs]
        rw [fxs, fys, e1] at h
        rw [fxs, fys, map_snoc_i, map_snoc_i]
        exact h
      · have e1 : firstN there n (i + 1) = firstN there n i := by simp only [firstN]; rw [if_neg (fun e => hlt e.2)]
        rw [fxs, fys, e1] at h
        exact Ev.neg (by omega) h
    · have e1 : firstN there n (i + 1) = firstN there n i := by simp only [firstN]; rw [if_neg (fun e => ht e.1)]
      rw [fxs, fys, e1] at h
      exact Ev.neg ht h
theorem reffill_ev (w : List G) (there : List Bool) (n : Nat) (h1 : 1 ≤ n) (hn : n ≤ w.length) (hw : w.length ≤ 255) (hl : w.length = there.length) :
    Ev (fun f => footlockerref04_Fill.f f (bs w) there (n : Int)) (if (firstN there n w.length).length < n then ([], 52) else (bs (filled w there n), 0)) := by
  refine Ev.congr (fun k => footlockerref04_Fill.f.eq_1 _ _ _ _) (Ev.pos (by rw [bs_length]; omega) ?_)
  rw [refmay_some, decide_eq_true (show May w (n : Int) from ⟨by omega, by omega, hw⟩)]
  exact Ev.somef (Ev.step (fun k => footlockerref04_Fill.j0.eq_2 _ _ _ _ _) (Ev.neg (by simp) (reffill_l0 w there n hw hl _ rfl w.length 0 (by omega))))
theorem reffill_no (w : List G) (there : List Bool) (n : Int) (h : w.length ≠ there.length ∨ ¬ May w n) : Ev (fun f => footlockerref04_Fill.f f (bs w) there n) ([], 1) := by
  have hj : Ev (fun f => footlockerref04_Fill.j0 f (bs w) there n true) ([], 1) := Ev.step (fun k => footlockerref04_Fill.j0.eq_2 _ _ _ _ _) (Ev.pos rfl (Ev.now _))
  refine Ev.congr (fun k => footlockerref04_Fill.f.eq_1 _ _ _ _) ?_
  by_cases hl : w.length = there.length
  · refine Ev.pos (by rw [bs_length]; omega) ?_
    rw [refmay_some, decide_eq_false (h.resolve_left (fun e => e hl))]
    exact Ev.somef hj
  · exact Ev.neg (by rw [bs_length]; omega) hj
end Go.Proofs.Ytmdiggcefmkciaa.Al
