/- Values of sums and products are sums and products of values; degrees add up; what is divided by itself leaves nothing; no further conditions. -/
import Derived.Test.YticcahcfpjghdaaL02
import Derived.Test.YticcahcfpjghdaaPx9
namespace Go.Proofs.Yticcahcfpjghdaa.Pure
open Go Go.RowKit Go.Proofs.YticcahcfpjghdaaW.PrintWords Go.Proofs.YticcahcfpjghdaaW.PrintMore Go.Proofs.Yticcahcfpjghdaa.P Go.Proofs.Yticcahcfpjghdaa.Al
set_option linter.unusedVariables false

/-- A product, divided by one of its factors, is the other one. -/
theorem quotient_of_product {p q u r : List G} {d : Nat} (hq : (trim q).length = d + 1) (hu : trim u = u) (hr : trim r = r) (hrl : r.length ≤ d)
    (h : ∀ m, co (pmul p q) m = co r m + co (pmul u q) m) : u = trim p ∧ r = [] := by
  have hz : ∀ m, co (pmul (zadd u p) q) m = co r m := by
    intro m
    have h1 : co (pmul (zadd u p) q) m = co (pmul u q) m + co (pmul p q) m := by
      rw [co_pmul, co_pmul, co_pmul, ← sum_add]
      apply sum_congr
      intro i _
      rw [co_zadd, add_mul]
    rw [h1, h m]
    have : co (pmul u q) m + (co r m + co (pmul u q) m) = co r m + (co (pmul u q) m + co (pmul u q) m) := by ac_rfl
    rw [this, Al.add_self, Al.add_zero]
  have h0 : trim (zadd u p) = [] := by
    cases he : (trim (zadd u p)).length with
    | zero => exact List.eq_nil_of_length_eq_zero he
    | succ e =>
      exfalso
      have hl := pmul_length he hq
      have := trim_last (p := pmul (zadd u p) q) (n := e + d) (by rw [trim_pmul]; exact hl)
      rw [hz, co_ge (by omega)] at this
      exact this rfl
  have hup : ∀ i, co u i = co p i := by
    intro i
    have := of_trim_nil h0 i
    rw [co_zadd] at this
    exact add_eq_zero.1 this
  constructor
  · rw [← hu]
    exact trim_congr hup
  · rw [← hr]
    apply trim_eq_nil
    intro m
    rw [← hz, co_pmul]
    apply sum_eq_zero
    intro i _
    rw [of_trim_nil h0, Al.zero_mul]
theorem rules_j2 (p q : List G) (x : G) (hp : p.length ≤ 40) (hq : q.length ≤ 40) (a b : Nat) (ha : (trim p).length = a + 1) (hb : (trim q).length = b + 1) :
    Ev (fun k => footlockerlaw02_PolyRules.j2 k (bs p) (bs q) x.i (bs (pmul p q)) (ev p x).i (ev q x).i (a : Int) (b : Int) false) true := by
  refine Ev.step (fun k => footlockerlaw02_PolyRules.j2.eq_2 _ _ _ _ _ _ _ _ _ _) (Ev.neg (by simp) ?_)
  have hml := pmul_length ha hb
  have htp := trim_length_le p
  have htq := trim_length_le q
  obtain ⟨u, r, hE, hu, hr, hrl, hul, hall⟩ := divmod_ev (pmul p q) q b hb (by omega) (by omega)
  obtain ⟨rfl, rfl⟩ := quotient_of_product hb hu hr hrl hall
  refine Ev.bind hE (Ev.bind (degree_ev (pmul p q) (by omega)) ?_)
  rw [trim_pmul, hml]
  refine Ev.pos (by rw [Al.wrap_sm (by omega) (by omega)]; omega) (Ev.pos rfl (Ev.pos rfl (Ev.bind (trim_ev p (by omega)) ?_)))
  refine Ev.bind (same_true rfl (by dsimp only; rw [bs_length]; omega)) (Ev.pos rfl (Ev.bind (eval_ev _ x (by omega)) ?_))
  rw [ev_pmul]
  by_cases h : ev p x = 0
  · refine Ev.pos (by rw [h]; rfl) ?_
    rw [h, Al.zero_mul]
    exact Ev.now _
  · refine Ev.neg (by rw [i_eq_zero]; exact h) ?_
    have e : (((ev p x * ev q x).i == 0) == ((ev q x).i == 0)) = true := by
      rw [beq_iff_eq, Bool.eq_iff_iff, beq_iff_eq, beq_iff_eq, i_eq_zero, i_eq_zero, Al.mul_eq_zero]
      exact ⟨fun h1 => h1.resolve_left h, .inr⟩
    rw [e]
    exact Ev.now _
theorem rules_j1 (p q : List G) (x : G) (hp : p.length ≤ 40) (hq : q.length ≤ 40) : Ev (fun k => footlockerlaw02_PolyRules.j1 k (bs p) (bs q) x.i (bs (pmul p q)) (ev p x).i (ev q x).i false) true := by
  refine Ev.step (fun k => footlockerlaw02_PolyRules.j1.eq_2 _ _ _ _ _ _ _ _) (Ev.neg (by simp) (Ev.bind (degree_ev p (by omega)) (Ev.bind (degree_ev q (by omega)) ?_)))
  have none_ : ∀ a b : Int, pmul p q = [] → Ev (fun k => footlockerlaw02_PolyRules.j2 k (bs p) (bs q) x.i (bs (pmul p q)) (ev p x).i (ev q x).i a b true) true := by
    intro a b h
    rw [h]
    exact Ev.step (fun k => footlockerlaw02_PolyRules.j2.eq_2 _ _ _ _ _ _ _ _ _ _) (Ev.pos rfl (Ev.now _))
  cases ha : (trim p).length with
  | zero =>
    refine Ev.pos (by decide) (none_ _ _ (pmul_zero (.inl (of_trim_nil (List.eq_nil_of_length_eq_zero ha)))))
  | succ a =>
    refine Ev.neg (by omega) ?_
    cases hb : (trim q).length with
    | zero =>
      rw [decide_eq_true (by decide)]
      exact none_ _ _ (pmul_zero (.inr (of_trim_nil (List.eq_nil_of_length_eq_zero hb))))
    | succ b =>
      rw [decide_eq_false (by omega)]
      have := rules_j2 p q x hp hq a b ha hb
      rw [show ((a + 1 : Nat) : Int) - 1 = (a : Int) by omega, show ((b + 1 : Nat) : Int) - 1 = (b : Int) by omega]
      exact this
theorem PolyRules : footlockerlaw02_PolyRules.Pure := by
  intro l0 l1 a2 _ _ h0 _ _ h1 h2
  obtain ⟨p, rfl⟩ := bytes_in h0
  obtain ⟨q, rfl⟩ := bytes_in h1
  obtain ⟨x, rfl⟩ := byte_in h2
  apply Ev.rounds
  refine Ev.congr (fun k => footlockerlaw02_PolyRules.f.eq_1 _ _ _ _) (Ev.bind alive_ev (Ev.pos rfl ?_))
  have big : Ev (fun k => footlockerlaw02_PolyRules.j0 k (bs p) (bs q) x.i true) true :=
    Ev.step (fun k => footlockerlaw02_PolyRules.j0.eq_2 _ _ _ _ _) (Ev.pos rfl (Ev.now _))
  rw [bs_length, bs_length]
  by_cases hp : (p.length : Int) > 40
  · exact Ev.pos hp big
  · refine Ev.neg hp ?_
    by_cases hq : (q.length : Int) > 40
    · rw [decide_eq_true hq]
      exact big
    · rw [decide_eq_false hq]
      have hpl := padd_length_le p q
      refine Ev.step (fun k => footlockerlaw02_PolyRules.j0.eq_2 _ _ _ _ _) (Ev.neg (by simp) ?_)
      refine Ev.bind (pmul_ev p q (by omega) (by omega)) (Ev.bind (add_ev p q (by omega) (by omega)) (Ev.bind (eval_ev p x (by omega)) (Ev.bind (eval_ev q x (by omega)) (Ev.bind (eval_ev _ x (by omega)) ?_))))
      refine Ev.pos (by rw [ev_padd, xor_i]) (Ev.bind (add_ev p p (by omega) (by omega)) ?_)
      have hself : padd p p = [] := trim_eq_nil (fun i => by rw [co_zadd, Al.add_self])
      rw [hself]
      refine Ev.pos rfl (Ev.bind (degree_ev _ (by omega)) (Ev.bind (degree_ev p (by omega)) (Ev.bind (degree_ev q (by omega)) ?_)))
      have hle : (trim (padd p q)).length ≤ max (trim p).length (trim q).length := by
        apply trim_len_le_of
        intro j hj
        rw [co_padd, trim_ge (p := p) (by omega), trim_ge (p := q) (by omega), Al.add_zero]
      rw [decide_eq_false (by unfold mx; split <;> omega)]
      exact rules_j1 p q x (by omega) (by omega)
end Go.Proofs.Yticcahcfpjghdaa.Pure
