/- What the statements of the layer of equations share: the examples, and sizes that are let in. Conditions: as each theorem states them. -/
import Derived.Test.YtanknpdibjfmlaaR3
import Derived.Test.YtanknpdibjfmlaaPx6
namespace Go.Proofs.Ytanknpdibjfmlaa.Al
open Go Go.RowKit Go.Proofs.YtanknpdibjfmlaaW.PrintWords Go.Proofs.YtanknpdibjfmlaaW.PrintMore Go.Proofs.Ytanknpdibjfmlaa.P
set_option linter.unusedVariables false
set_option linter.unusedSimpArgs false
theorem alive_ev : Ev (fun k => footlockerlaw03_alive.f k) true :=
  Ev.of (fun k => footlockerlaw03_alive.mono k) (k := 60) (by decide +kernel)
/-- few rows, and few columns -/
def Few (M : List (List G)) : Prop := M.length ≤ 20 ∧ ∀ i, i < M.length → (row M i).length ≤ 20
theorem Few.fit {M : List (List G)} (h : Few M) : Fit M := ⟨by have := h.1; omega, fun i hi => by have := h.2 i hi; omega⟩
theorem Few.wid {M : List (List G)} (h : Few M) : wid M ≤ 20 := by
  unfold Al.wid
  by_cases e : 0 < M.length
  · exact h.2 0 e
  · rw [row_ge (by omega)]; decide
theorem small_l0 (M : List (List G)) (hM : M.length ≤ 9223372036854775807) (d : Nat) : ∀ n : Nat, n + d = M.length → (∀ i, i < n → (row M i).length ≤ 20) → ∃ b, Ev (fun k => footlockerlaw03_small.l0 k (bss M) (bss M) (M.length : Int) (n : Int)) b ∧ (b = true → Few M) := by
  induction d with
  | zero =>
    intro n hn h
    refine ⟨decide ((M.length : Int) ≤ 20), Ev.step (fun k => footlockerlaw03_small.l0.eq_2 _ _ _ _ _) (Ev.neg (by omega) ?_), fun hb => ⟨by have := of_decide_eq_true hb; omega, fun i hi => h i (by omega)⟩⟩
    rw [bss_length]
    exact Ev.now _
  | succ d ih =>
    intro n hn h
    by_cases e : (row M n).length > 20
    · refine ⟨false, Ev.step (fun k => footlockerlaw03_small.l0.eq_2 _ _ _ _ _) (Ev.pos (by omega) (Ev.pos (by omega) (Ev.pos (by rw [bss_length]; omega) ?_))), fun hb => by cases hb⟩
      rw [rd_bss]
      exact Ev.pos (by rw [bs_length]; omega) (Ev.now _)
    · obtain ⟨b, h1, h2⟩ := ih (n + 1) (by omega) (fun i hi => by
        by_cases e2 : i = n
        · rw [e2]; omega
        · exact h i (by omega))
      refine ⟨b, Ev.step (fun k => footlockerlaw03_small.l0.eq_2 _ _ _ _ _) (Ev.pos (by omega) (Ev.pos (by omega) (Ev.pos (by rw [bss_length]; omega) ?_))), h2⟩
      have hw : wrap64 ((n : Int) + 1) = ((n + 1 : Nat) : Int) := by rw [Al.wrap_sm (by omega) (by omega)]; omega
      rw [rd_bss, hw]
      exact Ev.neg (by rw [bs_length]; omega) h1
theorem small_ev (M : List (List G)) (hM : M.length ≤ 9223372036854775807) : ∃ b, Ev (fun k => footlockerlaw03_small.f k (bss M)) b ∧ (b = true → Few M) := by
  obtain ⟨b, h1, h2⟩ := small_l0 M hM M.length 0 (Nat.zero_add _) (fun i hi => by omega)
  refine ⟨b, Ev.congr (fun k => footlockerlaw03_small.f.eq_1 _ _) ?_, h2⟩
  rw [bss_length]
  exact h1
theorem len_in {n : Nat} (h : n ≤ maxLen) : n ≤ 9223372036854775807 := by
  unfold maxLen at h
  omega
end Go.Proofs.Ytanknpdibjfmlaa.Al
