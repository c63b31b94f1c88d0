/- The program's polynomials, function by function, are those of the theory; the document's, too. Conditions: lengths that fit, as each theorem states them. -/
import Derived.Test.YtmdiggcefmkciaaG1
import Derived.Test.YtmdiggcefmkciaaPx1
import Derived.Test.YtmdiggcefmkciaaPx2
namespace Go.Proofs.Ytmdiggcefmkciaa.Al
open Go Go.RowKit Go.Proofs.YtmdiggcefmkciaaW.PrintWords Go.Proofs.YtmdiggcefmkciaaW.PrintMore Go.Proofs.Ytmdiggcefmkciaa.P
set_option linter.unusedVariables false
set_option linter.unusedSimpArgs false

def bs (p : List G) : List Int := p.map G.i
theorem bs_length (p : List G) : (bs p).length = p.length := List.length_map _
theorem bs_nil : bs [] = [] := rfl
theorem bs_cons (a : G) (p : List G) : bs (a :: p) = a.i :: bs p := rfl
theorem bs_append (p q : List G) : bs (p ++ q) = bs p ++ bs q := List.map_append
theorem bs_take (p : List G) (n : Nat) : (bs p).take n = bs (p.take n) := List.map_take.symm
theorem bs_drop (p : List G) (n : Nat) : (bs p).drop n = bs (p.drop n) := List.map_drop.symm
theorem bs_set (p : List G) (n : Nat) (a : G) : (bs p).set n a.i = bs (p.set n a) := List.map_set.symm
theorem bs_replicate (n : Nat) : List.replicate n (0 : Int) = bs (List.replicate n 0) := by rw [bs, List.map_replicate]; rfl
theorem bs_inj {p q : List G} : bs p = bs q ↔ p = q := by
  constructor
  · intro h
    exact List.map_inj_right (fun a b => i_inj.1) |>.1 h
  · rintro rfl; rfl
theorem rd_bs (p : List G) (n : Nat) : rd (bs p) (n : Int) = (co p n).i := by
  simp only [rd, bs, Int.toNat_natCast, co, List.getD_eq_getElem?_getD, List.getElem?_map]
  cases p[n]? <;> rfl
theorem of_bytes : ∀ l : List Int, (∀ x ∈ l, 0 ≤ x ∧ x < 256) → ∃ p, l = bs p := by
  intro l
  induction l with
  | nil => intro _; exact ⟨[], rfl⟩
  | cons a l ih =>
    intro h
    obtain ⟨p, rfl⟩ := ih (fun x hx => h x (List.mem_cons_of_mem _ hx))
    have ha := h a List.mem_cons_self
    exact ⟨G.of a :: p, by rw [bs_cons, i_of ha.1 ha.2]⟩
theorem wrap_succ {n : Nat} (h : n < 4611686018427387904) : wrap64 ((n : Int) + 1) = ((n + 1 : Nat) : Int) := by
  rw [wrap_sm (by omega) (by omega)]; omega
theorem wrap_pred (n : Nat) (h : n < 4611686018427387904) : wrap64 (((n + 1 : Nat) : Int) - 1) = (n : Int) := by
  rw [wrap_sm (by omega) (by omega)]; omega
theorem wrap_nat {n : Nat} (h : n < 4611686018427387904) : wrap64 (n : Int) = (n : Int) := wrap_sm (by omega) (by omega)

/-! Degree, Trim -/
theorem degree_l0 (p : List G) (hp : p.length < 1000000000000) : ∀ m, m ≤ p.length → (∀ j, m ≤ j → co p j = 0) → Ev (fun k => poly_Degree.l0 k (bs p) ((m : Int) - 1)) (((trim p).length : Int) - 1) := by
  intro m
  induction m with
  | zero =>
    intro _ h
    refine Ev.step (fun k => poly_Degree.l0.eq_2 _ _ _) (Ev.neg (by omega) ?_)
    rw [trim_eq_nil (fun i => h i (Nat.zero_le _))]
    exact Ev.now _
  | succ m ih =>
    intro hm h
    have e : (((m + 1 : Nat) : Int) - 1) = (m : Int) := by omega
    rw [e]
    refine Ev.step (fun k => poly_Degree.l0.eq_2 _ _ _) (Ev.pos (by omega) (Ev.pos (by omega) (Ev.pos (by rw [bs_length]; omega) ?_)))
    rw [rd_bs]
    by_cases hz : co p m = 0
    · refine Ev.pos (by rw [hz]; rfl) ?_
      rw [wrap_sm (by omega) (by omega)]
      refine ih (by omega) (fun j hj => ?_)
      by_cases ej : j = m
      · rw [ej, hz]
      · exact h j (by omega)
    · refine Ev.neg (by rw [i_eq_zero]; exact hz) ?_
      rw [trim_length_of h (.inr (by simpa using hz))]
      rw [e]
      exact Ev.now _
theorem degree_ev (p : List G) (hp : p.length < 1000000000000) : Ev (fun k => poly_Degree.f k (bs p)) (((trim p).length : Int) - 1) := by
  have h := degree_l0 p hp p.length (Nat.le_refl _) (fun j hj => co_ge hj)
  have e : wrap64 (((bs p).length : Int) - 1) = (p.length : Int) - 1 := by rw [bs_length, wrap_sm (by omega) (by omega)]
  refine Ev.congr (fun k => ?_) h
  rw [poly_Degree.f, e]
theorem clone_some (l : List Int) (h : l.length < 1000000000000) : slices_Clone_byte_byte.f l = some l := by
  unfold slices_Clone_byte_byte.f
  rw [if_pos (by omega)]
theorem trim_ev (p : List G) (hp : p.length < 1000000000000) : Ev (fun k => poly_Trim.f k (bs p)) (bs (trim p)) := by
  have hl := trim_length_le p
  refine Ev.congr (fun k => poly_Trim.f.eq_1 _ _) (Ev.bind (degree_ev p hp) ?_)
  have e : wrap64 (((trim p).length : Int) - 1 + 1) = ((trim p).length : Int) := by rw [wrap_sm (by omega) (by omega)]; omega
  rw [e]
  refine Ev.pos (by omega) (Ev.pos (by rw [bs_length]; omega) ?_)
  rw [Int.toNat_natCast, bs_take, ← trim_eq_take, clone_some _ (by rw [bs_length]; omega)]
  exact Ev.now _

/-! Add -/
theorem add_l0 (p q : List G) (hp : p.length < 100000000000) (hq : q.length < 100000000000) (n : Nat) : ∀ (o : List G) (i : Nat), i + n = q.length → o.length = max p.length q.length →
    (∀ j, co o j = if j < i then co p j + co q j else co p j) → Ev (fun k => poly_Add.l0 k (bs o) (bs q) (q.length : Int) (i : Int)) (bs (padd p q)) := by
  induction n with
  | zero =>
    intro o i hi ho h
    refine Ev.step (fun k => poly_Add.l0.eq_2 _ _ _ _ _) (Ev.neg (by omega) (Ev.bind (trim_ev o (by omega)) ?_))
    rw [show trim o = padd p q from trim_congr (fun j => by
      rw [h, co_zadd]
      split
      · rfl
      · rw [co_ge (p := q) (by omega), add_zero])]
    exact Ev.now _
  | succ n ih =>
    intro o i hi ho h
    refine Ev.step (fun k => poly_Add.l0.eq_2 _ _ _ _ _) (Ev.pos (by omega) (Ev.pos (by omega) (Ev.pos (by rw [bs_length]; omega) (Ev.pos (by rw [bs_length]; omega) ?_))))
    rw [rd_bs, rd_bs, xor_i, Int.toNat_natCast, bs_set, wrap_succ (by omega)]
    refine ih _ (i + 1) (by omega) (by rw [List.length_set]; exact ho) (fun j => ?_)
    rw [co_set _ _ _ _ (by omega)]
    by_cases e : j = i
    · subst e
      rw [if_pos rfl, if_pos (by omega), h, if_neg (by omega)]
    · rw [if_neg e, h]
      by_cases hlt : j < i
      · rw [if_pos hlt, if_pos (by omega)]
      · rw [if_neg hlt, if_neg (by omega)]
theorem mx_nat (a b : Nat) : mx (a : Int) (b : Int) = ((max a b : Nat) : Int) := by
  unfold mx
  split <;> omega
theorem add_ev (p q : List G) (hp : p.length < 100000000000) (hq : q.length < 100000000000) : Ev (fun k => poly_Add.f k (bs p) (bs q)) (bs (padd p q)) := by
  refine Ev.congr (fun k => poly_Add.f.eq_1 _ _ _) ?_
  rw [bs_length, bs_length, mx_nat]
  refine Ev.pos (by omega) (Ev.pos (by omega) (Ev.somef (Ev.pos (by rw [List.length_replicate]; omega) ?_)))
  rw [List.length_replicate, Int.toNat_natCast, bs_take, bs_replicate, bs_drop, ← bs_append]
  refine add_l0 p q hp hq q.length _ 0 (by omega) ?_ (fun j => ?_)
  · simp only [List.length_append, List.length_take, List.length_drop, List.length_replicate]
    omega
  · rw [if_neg (by omega), co_append, co_take, co_drop, co_replicate, List.length_take]
    split
    · rw [if_pos (by omega)]
    · rw [co_ge (by omega)]

/-! Mul -/
def acc (p q : List G) (i m : Nat) : G := sum (fun a => if a ≤ m then co p a * co q (m - a) else 0) i
theorem acc_all (p q : List G) (m : Nat) : acc p q p.length m = co (pmul p q) m := by
  rw [co_pmul, acc]
  rcases Nat.le_total p.length (m + 1) with h | h
  · rw [sum_extend (n := p.length) (m := m + 1) h]
    · apply sum_congr
      intro a ha
      rw [if_pos (by omega)]
    · intro a h1 _
      rw [co_ge h1, zero_mul]
  · rw [sum_extend (n := m + 1) (m := p.length) h]
    · apply sum_congr
      intro a ha
      rw [if_pos (by omega)]
    · intro a h1 _
      rw [if_neg (by omega)]
theorem mul_loops (p q : List G) (hp : p.length < 100000000000) (hq : q.length < 100000000000) (n : Nat) : ∀ (o : List G) (i : Nat), i + n = p.length → o.length = p.length + q.length →
    (∀ m, co o m = acc p q i m) → Ev (fun k => poly_Mul.l0 k (bs q) (bs o) (bs p) (p.length : Int) (i : Int)) (bs (pmul p q)) := by
  induction n with
  | zero =>
    intro o i hi ho h
    obtain rfl : i = p.length := by omega
    refine Ev.step (fun k => poly_Mul.l0.eq_2 _ _ _ _ _ _) (Ev.neg (by omega) (Ev.bind (trim_ev o (by omega)) ?_))
    rw [show trim o = pmul p q from (trim_congr (fun m => (h m).trans (acc_all p q m))).trans (trim_pmul p q)]
    exact Ev.now _
  | succ n ih =>
    intro o i hi ho h
    refine Ev.step (fun k => poly_Mul.l0.eq_2 _ _ _ _ _ _) (Ev.pos (by omega) (Ev.pos (by omega) (Ev.pos (by rw [bs_length]; omega) ?_)))
    rw [rd_bs, bs_length]
    have inner : ∀ (d : Nat) (o : List G) (j : Nat), j + d = q.length → o.length = p.length + q.length →
        (∀ m, co o m = acc p q i m + if i ≤ m ∧ m < i + j then co p i * co q (m - i) else 0) →
        Ev (fun k => poly_Mul.l1 k (bs q) (bs o) (i : Int) (co p i).i (bs p) (p.length : Int) (i : Int) (bs q) (q.length : Int) (j : Int)) (bs (pmul p q)) := by
      intro d
      induction d with
      | zero =>
        intro o j hj ho h
        refine Ev.step (fun k => poly_Mul.l1.eq_2 _ _ _ _ _ _ _ _ _ _ _) (Ev.neg (by omega) ?_)
        rw [wrap_succ (by omega)]
        refine ih o (i + 1) (by omega) ho (fun m => ?_)
        rw [h, acc, acc, sum_succ]
        congr 1
        by_cases h1 : i ≤ m
        · rw [if_pos h1]
          by_cases h2 : m < i + j
          · rw [if_pos ⟨h1, h2⟩]
          · rw [if_neg (by omega), co_ge (p := q) (by omega), mul_zero]
        · rw [if_neg h1, if_neg (by omega)]
      | succ d ihd =>
        intro o j hj ho h
        refine Ev.step (fun k => poly_Mul.l1.eq_2 _ _ _ _ _ _ _ _ _ _ _) (Ev.pos (by omega) (Ev.pos (by omega) (Ev.pos (by rw [bs_length]; omega) ?_)))
        have hw : wrap64 ((i : Int) + (j : Int)) = ((i + j : Nat) : Int) := by rw [wrap_sm (by omega) (by omega)]; omega
        rw [hw]
        refine Ev.pos (by omega) (Ev.pos (by rw [bs_length]; omega) ?_)
        rw [rd_bs]
        refine Ev.bind (mul_ev _ _) ?_
        rw [rd_bs, xor_i, Int.toNat_natCast, bs_set, wrap_succ (by omega)]
        refine ihd _ (j + 1) (by omega) (by rw [List.length_set]; exact ho) (fun m => ?_)
        rw [co_set _ _ _ _ (by omega)]
        by_cases e : m = i + j
        · subst e
          rw [if_pos rfl, h (i + j), if_neg (show ¬ (i ≤ i + j ∧ i + j < i + j) by omega), add_zero, if_pos (show i ≤ i + j ∧ i + j < i + (j + 1) by omega), show i + j - i = j by omega]
        · rw [if_neg e, h]
          congr 1
          by_cases h1 : i ≤ m ∧ m < i + j
          · rw [if_pos h1, if_pos (by omega)]
          · rw [if_neg h1, if_neg (by omega)]
    exact inner q.length o 0 (by omega) ho (fun m => by rw [h, if_neg (by omega), add_zero])
theorem pmul_ev (p q : List G) (hp : p.length < 100000000000) (hq : q.length < 100000000000) : Ev (fun k => poly_Mul.f k (bs p) (bs q)) (bs (pmul p q)) := by
  refine Ev.congr (fun k => poly_Mul.f.eq_1 _ _ _) ?_
  have hw : wrap64 (((bs p).length : Int) + ((bs q).length : Int)) = ((p.length + q.length : Nat) : Int) := by rw [bs_length, bs_length, wrap_sm (by omega) (by omega)]; omega
  rw [hw, bs_length, Int.toNat_natCast, bs_replicate]
  refine Ev.pos (by omega) (Ev.pos (by omega) ?_)
  exact mul_loops p q hp hq p.length _ 0 (by omega) (List.length_replicate) (fun m => by rw [co_replicate]; rfl)

/-! Eval -/
theorem drop_co {p : List G} {n : Nat} (h : n < p.length) : p.drop n = co p n :: p.drop (n + 1) := by rw [List.drop_eq_getElem_cons h, co_lt h]
theorem eval_l0 (p : List G) (x : G) (hp : p.length < 100000000000) : ∀ m, m ≤ p.length → Ev (fun k => poly_Eval.l0 k (bs p) x.i (ev (p.drop m) x).i ((m : Int) - 1)) (ev p x).i := by
  intro m
  induction m with
  | zero =>
    intro _
    exact Ev.step (fun k => poly_Eval.l0.eq_2 _ _ _ _ _) (Ev.neg (by omega) (Ev.now _))
  | succ m ih =>
    intro hm
    have e : (((m + 1 : Nat) : Int) - 1) = (m : Int) := by omega
    rw [e]
    refine Ev.step (fun k => poly_Eval.l0.eq_2 _ _ _ _ _) (Ev.pos (by omega) (Ev.bind (mul_ev _ _) (Ev.pos (by omega) (Ev.pos (by rw [bs_length]; omega) ?_))))
    rw [rd_bs, xor_i, wrap_sm (by omega) (by omega)]
    have h := ih (by omega)
    rw [drop_co (show m < p.length by omega), ev_cons, add_comm, mul_comm] at h
    exact h
theorem eval_ev (p : List G) (x : G) (hp : p.length < 100000000000) : Ev (fun k => poly_Eval.f k (bs p) x.i) (ev p x).i := by
  have h := eval_l0 p x hp p.length (Nat.le_refl _)
  rw [List.drop_length] at h
  refine Ev.congr (fun k => poly_Eval.f.eq_1 _ _ _) ?_
  rw [bs_length, wrap_sm (by omega) (by omega)]
  exact h

/-! powers, inverses, quotients -/
theorem and_one64 {x : Int} (h0 : 0 ≤ x) (h1 : x < 256) : Go.bits .and .i64 x 1 = x % 2 :=
  bits_mask .i64 8 (by decide) (fun n a b => by rw [IntKind.wrap_i64]; omega) 1 (by decide) x h0 h1
theorem power_odd {a o : G} {x : Int} {r : Int} (h0 : 0 < x) (h1 : x < 256) (ho : x % 2 = 1) (h : Ev (fun k => gf_power.l0 k (a * a).i (x / 2) (o * a).i) r) : Ev (fun k => gf_power.l0 k a.i x o.i) r := by
  refine Ev.step (fun k => gf_power.l0.eq_2 _ _ _ _) (Ev.pos h0 ?_)
  rw [and_one64 (by omega) h1]
  exact Ev.neg (by omega) (Ev.bind (mul_ev _ _) (Ev.bind (mul_ev _ _) h))
theorem power_even {a o : G} {x : Int} {r : Int} (h0 : 0 < x) (h1 : x < 256) (ho : x % 2 = 0) (h : Ev (fun k => gf_power.l0 k (a * a).i (x / 2) o.i) r) : Ev (fun k => gf_power.l0 k a.i x o.i) r := by
  refine Ev.step (fun k => gf_power.l0.eq_2 _ _ _ _) (Ev.pos h0 ?_)
  rw [and_one64 (by omega) h1]
  exact Ev.pos (by omega) (Ev.bind (mul_ev _ _) h)
theorem power_end (a o : G) : Ev (fun k => gf_power.l0 k a.i 0 o.i) o.i :=
  Ev.step (fun k => gf_power.l0.eq_2 _ _ _ _) (Ev.neg (by omega) (Ev.now _))
theorem inv_ev (a : G) : Ev (fun k => gf_Inv.f k a.i) (inv a).i := by
  refine Ev.congr (fun k => gf_Inv.f.eq_1 _ _) (Ev.bind (a := (inv a).i) ?_ (Ev.now _))
  refine Ev.congr (fun k => gf_power.f.eq_1 _ _ _) ?_
  have : Ev (fun k => gf_power.l0 k a.i 254 (1 : G).i) (inv a).i := by
    refine power_even (by omega) (by omega) (by decide) ?_
    refine power_odd (by omega) (by omega) (by decide) ?_
    refine power_odd (by omega) (by omega) (by decide) ?_
    refine power_odd (by omega) (by omega) (by decide) ?_
    refine power_odd (by omega) (by omega) (by decide) ?_
    refine power_odd (by omega) (by omega) (by decide) ?_
    refine power_odd (by omega) (by omega) (by decide) ?_
    refine power_odd (by omega) (by omega) (by decide) ?_
    refine evc (power_end _ _) ?_
    rw [one_mul]
    rfl
  exact this
theorem div_ev (a b : G) (hb : b ≠ 0) : Ev (fun k => gf_Div.f k a.i b.i) ((a * inv b).i, true) :=
  Ev.congr (fun k => gf_Div.f.eq_1 _ _ _) (Ev.neg (by rw [i_eq_zero]; exact hb) (Ev.bind (inv_ev b) (Ev.bind (mul_ev _ _) (Ev.now _))))
end Go.Proofs.Ytmdiggcefmkciaa.Al
