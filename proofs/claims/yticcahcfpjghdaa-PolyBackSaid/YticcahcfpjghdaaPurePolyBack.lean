/- A polynomial through its own values is it; through others it has these values; no further conditions. -/
import Derived.Test.YticcahcfpjghdaaL02
import Derived.Test.YticcahcfpjghdaaPx8
namespace Go.Proofs.Yticcahcfpjghdaa.Pure
open Go Go.RowKit Go.Proofs.YticcahcfpjghdaaW.PrintWords Go.Proofs.YticcahcfpjghdaaW.PrintMore Go.Proofs.Yticcahcfpjghdaa.P Go.Proofs.Yticcahcfpjghdaa.Al
set_option linter.unusedVariables false

theorem and31 (x : Int) : ∃ c : Nat, c ≤ 31 ∧ Go.bits .and .i64 x 31 = (c : Int) := by
  refine ⟨(BitVec.ofInt 64 x &&& BitVec.ofInt 64 31).toNat, ?_, ?_⟩
  · rw [BitVec.toNat_and]
    exact Nat.and_le_right
  · have h : (BitVec.ofInt 64 x &&& BitVec.ofInt 64 31).toNat ≤ 31 := by
      rw [BitVec.toNat_and]
      exact Nat.and_le_right
    show IntKind.i64.wrap _ = _
    rw [IntKind.wrap_i64]
    show (((BitVec.ofInt 64 x &&& BitVec.ofInt 64 31).toNat : Int) + _) % _ - _ = _
    omega
def pt (i : Nat) : G := G.of ((7 * (i : Int) + 3) % 256)
theorem pt_i {i : Nat} (h : i < 1000) : wrap64 (wrap64 (7 * (i : Int)) + 3) % 256 = (pt i).i := by
  rw [Al.wrap_sm (x := 7 * (i : Int)) (by omega) (by omega), Al.wrap_sm (by omega) (by omega), pt, i_of (by omega) (by omega)]
theorem pt_ne {a b : Nat} (hab : a < b) (hb : b < 256) : pt a ≠ pt b := by
  intro e
  have := congrArg G.i e
  rw [pt, pt, i_of (by omega) (by omega), i_of (by omega) (by omega)] at this
  omega
theorem pts_nodup (n : Nat) (hn : n < 256) : (tab n pt).Nodup := by
  rw [nodup_co]
  intro a b hab hb
  rw [tab_length] at hb
  rw [co_tab, co_tab, if_pos (by omega), if_pos hb]
  exact pt_ne hab (by omega)
theorem back_l1 (xs ys q : List G) (hq : q.length ≤ ys.length) (hy : ys.length ≤ 30) (hxl : ys.length ≤ xs.length) (h : ∀ j, j < ys.length → ev q (co xs j) = co ys j) (d : Nat) : ∀ n : Nat, n + d = ys.length →
    Ev (fun k => footlockerlaw02_PolyBack.l1 k (bs ys) (bs xs) (bs q) 0 (bs ys) (ys.length : Int) (n : Int)) true := by
  induction d with
  | zero =>
    intro n hn
    refine Ev.step (fun k => footlockerlaw02_PolyBack.l1.eq_2 _ _ _ _ _ _ _ _) (Ev.neg (by omega) (Ev.pos rfl ?_))
    rw [decide_eq_true (by rw [bs_length, bs_length]; omega)]
    exact Ev.now _
  | succ d ih =>
    intro n hn
    refine Ev.step (fun k => footlockerlaw02_PolyBack.l1.eq_2 _ _ _ _ _ _ _ _) (Ev.pos (by omega) (Ev.pos (by omega) (Ev.pos (by rw [bs_length]; omega) (Ev.pos (by rw [bs_length]; omega) ?_))))
    rw [rd_bs, rd_bs]
    refine Ev.bind (eval_ev q _ (by omega)) (Ev.pos (by rw [h n (by omega)]) ?_)
    rw [wrap_succ (by omega)]
    exact ih (n + 1) (by omega)
theorem back_j2 (m : Nat) (ys : List G) (hm : m < 200) (hy : ys.length ≤ 30) : Ev (fun k => footlockerlaw02_PolyBack.j2 k (m : Int) (bs ys) (bs (tab m pt)) false) true := by
  refine Ev.step (fun k => footlockerlaw02_PolyBack.j2.eq_2 _ _ _ _ _) (Ev.neg (by simp) ?_)
  rw [bs_length]
  by_cases h : (ys.length : Int) > (m : Int)
  · exact Ev.pos h (Ev.now _)
  · refine Ev.neg h (Ev.pos (by omega) (Ev.pos (by rw [bs_length, tab_length]; omega) ?_))
    rw [Int.toNat_natCast, bs_take]
    have ht : (tab m pt).take ys.length = tab ys.length pt := by
      apply ext_co
      · rw [List.length_take, tab_length, tab_length]; omega
      · intro i hi
        rw [List.length_take, tab_length] at hi
        rw [co_take, co_tab, co_tab, if_pos (by omega), if_pos (by omega), if_pos (by omega)]
    rw [ht]
    have hd := pts_nodup ys.length (by omega)
    obtain ⟨h1, h2, h3⟩ := interp_facts (ys := ys) hd
    rw [tab_length] at h1 h3
    refine Ev.bind (through_ev _ ys hd (by rw [tab_length]) (by rw [tab_length]; omega)) ?_
    refine back_l1 _ _ _ h1 hy (by rw [tab_length]; omega) (fun j hj => ?_) ys.length 0 (by omega)
    have := h3 j hj
    rw [co_tab, if_pos hj] at this
    rw [co_tab, if_pos (by omega)]
    exact this
theorem back_l0 (p ys : List G) (m : Nat) (hp : p.length ≤ m) (hm : m < 200) (hy : ys.length ≤ 30) (d : Nat) : ∀ n : Nat, n + d = m →
    Ev (fun k => footlockerlaw02_PolyBack.l0 k (bs p) (m : Int) (bs ys) (bs (tab n pt)) (bs (tab n (fun i => ev p (pt i)))) (m : Int) (n : Int)) true := by
  induction d with
  | zero =>
    intro n hn
    obtain rfl : n = m := by omega
    have hd := pts_nodup n (by omega)
    refine Ev.step (fun k => footlockerlaw02_PolyBack.l0.eq_2 _ _ _ _ _ _ _ _) (Ev.neg (by omega) ?_)
    refine Ev.bind (through_ev _ _ hd (by rw [tab_length, tab_length]) (by rw [tab_length]; omega)) (Ev.pos rfl (Ev.bind (trim_ev p (by omega)) ?_))
    have hu := interp_unique (xs := tab n pt) (ys := tab n (fun i => ev p (pt i))) (p := p) hd (by rw [tab_length]; exact hp) (fun j hj => by
      rw [tab_length] at hj
      rw [co_tab, if_pos hj, co_tab, if_pos hj])
    have hl := trim_length_le p
    refine Ev.bind (same_true (by rw [hu]) (by dsimp only; rw [bs_length, ← hu]; omega)) ?_
    exact back_j2 n ys (by omega) hy
  | succ d ih =>
    intro n hn
    refine Ev.step (fun k => footlockerlaw02_PolyBack.l0.eq_2 _ _ _ _ _ _ _ _) (Ev.pos (by omega) (Ev.pos (by rw [bs_length, tab_length]; omega) ?_))
    rw [pt_i (by omega)]
    refine Ev.bind (eval_ev p _ (by omega)) (Ev.pos (by rw [bs_length, tab_length]; omega) ?_)
    rw [tab_bs n pt, tab_bs n (fun i => ev p (pt i)), wrap_succ (by omega)]
    exact ih (n + 1) (by omega)
theorem PolyBack : footlockerlaw02_PolyBack.Pure := by
  intro l0 a1 l2 _ _ h0 h1 _ _ h2
  obtain ⟨p, rfl⟩ := bytes_in h0
  obtain ⟨q, rfl⟩ := bytes_in h2
  apply Ev.rounds
  refine Ev.congr (fun k => footlockerlaw02_PolyBack.f.eq_1 _ _ _ _) (Ev.bind alive_ev (Ev.pos rfl ?_))
  have big : Ev (fun k => footlockerlaw02_PolyBack.j0 k (bs p) a1 (bs q) true) true :=
    Ev.step (fun k => footlockerlaw02_PolyBack.j0.eq_2 _ _ _ _ _) (Ev.pos rfl (Ev.now _))
  rw [bs_length, bs_length]
  by_cases hp : (p.length : Int) > 30
  · exact Ev.pos hp big
  · refine Ev.neg hp ?_
    by_cases hq : (q.length : Int) > 30
    · rw [decide_eq_true hq]
      exact big
    · rw [decide_eq_false hq]
      refine Ev.step (fun k => footlockerlaw02_PolyBack.j0.eq_2 _ _ _ _ _) (Ev.neg (by simp) ?_)
      obtain ⟨c, hc, e⟩ := and31 a1
      have hw : wrap64 (((bs p).length : Int) + Go.bits .and .i64 a1 31) = ((p.length + c : Nat) : Int) := by
        rw [e, bs_length, Al.wrap_sm (by omega) (by omega)]; omega
      rw [hw]
      exact back_l0 p q (p.length + c) (by omega) (by omega) (by omega) (p.length + c) 0 (by omega)
end Go.Proofs.Yticcahcfpjghdaa.Pure
