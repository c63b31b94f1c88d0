/- A polynomial times x has its bytes one further along; at 0 it is its first byte, at 1 the sum of all; no further conditions. -/
import Derived.Test.YticcahcfpjghdaaL02
import Derived.Test.YticcahcfpjghdaaPx10
namespace Go.Proofs.Yticcahcfpjghdaa.Pure
open Go Go.RowKit Go.Proofs.YticcahcfpjghdaaW.PrintWords Go.Proofs.YticcahcfpjghdaaW.PrintMore Go.Proofs.Yticcahcfpjghdaa.P Go.Proofs.Yticcahcfpjghdaa.Al
set_option linter.unusedVariables false

theorem co_shift (p : List G) (m : Nat) : co (pmul p [0, 1]) m = co (0 :: trim p) m := by
  rw [co_pmul]
  cases m with
  | zero =>
    rw [sum_succ, sum_zero, Al.zero_add]
    show co p 0 * 0 = 0
    exact Al.mul_zero _
  | succ m =>
    rw [co_succ, co_trim, sum_single (k := m) (by omega)]
    · rw [show m + 1 - m = 1 by omega]
      exact Al.mul_one _
    · intro i hi hne
      by_cases e : i = m + 1
      · rw [e, Nat.sub_self]
        exact Al.mul_zero _
      · rw [co_ge (p := [0, 1]) (by simp; omega), Al.mul_zero]
theorem shift_eq (p : List G) (h : trim p ≠ []) : pmul p [0, 1] = 0 :: trim p := by
  rw [← trim_pmul, trim_congr (co_shift p)]
  show (if trim (trim p) = [] ∧ (0 : G) = 0 then [] else 0 :: trim (trim p)) = _
  rw [trim_trim, if_neg (fun e => h e.1)]
theorem shift_nil (p : List G) (h : trim p = []) : pmul p [0, 1] = [] := pmul_zero (.inl (of_trim_nil h))
theorem ev_one (p : List G) : ev p 1 = sum (co p) p.length := by
  rw [ev_sum]
  apply sum_congr
  intro i _
  have : ∀ n, pw 1 n = 1 := by
    intro n
    induction n with
    | zero => rfl
    | succ n ih => rw [pw, ih, Al.mul_one]
  rw [this, Al.mul_one]
theorem shifts_end (p : List G) (hp : p.length ≤ 60) : Ev (fun k => footlockerlaw02_PolyShifts.l0 k (bs p) (bs (pmul p [0, 1])) (bs (trim p)) (co p 0).i (sum (co p) p.length).i (bs p) (p.length : Int) (p.length : Int)) true := by
  have htp := trim_length_le p
  refine Ev.step (fun k => footlockerlaw02_PolyShifts.l0.eq_2 _ _ _ _ _ _ _ _ _) (Ev.neg (by omega) ?_)
  by_cases h : trim p = []
  · rw [shift_nil p h]
    refine Ev.pos (by rw [h]; rfl) (Ev.pos rfl (Ev.bind (degree_ev p (by omega)) ?_))
    rw [h]
    exact Ev.now _
  · have hpos : 0 < (trim p).length := List.length_pos_iff.2 h
    rw [shift_eq p h]
    refine Ev.neg (by rw [bs_length]; omega) (Ev.somef (Ev.pos (by rw [bs_length]; simp; omega) ?_))
    refine Ev.bind (same_true rfl (by rw [bs_length]; simp; omega)) (Ev.pos rfl ?_)
    refine Ev.bind (eval_ev p 0 (by omega)) (Ev.pos (by rw [ev_at_zero]) (Ev.bind (eval_ev p 1 (by omega)) (Ev.pos (by rw [ev_one]) ?_)))
    refine Ev.bind (degree_ev (0 :: trim p) (by simp; omega)) (Ev.bind (degree_ev p (by omega)) ?_)
    have ht : trim (0 :: trim p) = 0 :: trim p := by rw [← shift_eq p h, trim_pmul]
    rw [ht, List.length_cons, Al.wrap_sm (by omega) (by omega)]
    have : (((((trim p).length + 1 : Nat) : Int) - 1) == (((trim p).length : Int) - 1 + 1)) = true := by
      rw [beq_iff_eq]; omega
    rw [this]
    exact Ev.now _
theorem shifts_l0 (p : List G) (hp : p.length ≤ 60) (d : Nat) : ∀ n : Nat, n + d = p.length → Ev (fun k => footlockerlaw02_PolyShifts.l0 k (bs p) (bs (pmul p [0, 1])) (bs (trim p)) (if n = 0 then 0 else co p 0).i (sum (co p) n).i (bs p) (p.length : Int) (n : Int)) true := by
  induction d with
  | zero =>
    intro n hn
    have h := shifts_end p hp
    obtain rfl : n = p.length := by omega
    by_cases e : p.length = 0
    · rw [if_pos e]
      rw [co_ge (p := p) (i := 0) (by omega)] at h
      exact h
    · rw [if_neg e]
      exact h
  | succ d ih =>
    intro n hn
    refine Ev.step (fun k => footlockerlaw02_PolyShifts.l0.eq_2 _ _ _ _ _ _ _ _ _) (Ev.pos (by omega) (Ev.pos (by omega) (Ev.pos (by rw [bs_length]; omega) ?_)))
    have h := ih (n + 1) (by omega)
    rw [if_neg (by omega), sum_succ] at h
    rw [rd_bs, xor_i, wrap_succ (by omega)]
    by_cases e : n = 0
    · subst e
      exact Ev.pos rfl h
    · refine Ev.neg (by omega) ?_
      rw [if_neg e]
      exact h
theorem PolyShifts : footlockerlaw02_PolyShifts.Pure := by
  intro l0 _ _ h0
  obtain ⟨p, rfl⟩ := bytes_in h0
  apply Ev.rounds
  refine Ev.congr (fun k => footlockerlaw02_PolyShifts.f.eq_1 _ _) (Ev.bind alive_ev (Ev.pos rfl ?_))
  rw [bs_length]
  by_cases hp : (p.length : Int) > 60
  · exact Ev.pos hp (Ev.now _)
  · refine Ev.neg hp ?_
    refine Ev.bind (a := bs (pmul p [0, 1])) (pmul_ev p [0, 1] (by omega) (by simp)) (Ev.bind (trim_ev p (by omega)) ?_)
    exact shifts_l0 p (by omega) p.length 0 (by omega)
end Go.Proofs.Yticcahcfpjghdaa.Pure
