/- What the statement's proof uses: lemmas, and the program's functions as Lean functions; each theorem states its own conditions. Joined by a program. -/
import Derived.Test.YtanknpdibjfmlaaZLinearRanksC
namespace Go.Proofs.Ytanknpdibjfmlaa.Al
set_option linter.unusedVariables false
set_option linter.unusedSimpArgs false
theorem RF.le {R : List (List G)} {ps : List Nat} {c : Nat} (h : RF R ps c) : ps.length ≤ c := by
 rcases Nat.eq_zero_or_pos ps.length with e | e
 ·omega
 ·have h1 := asc_ge h.asc (ps.length - 1) (by omega)
  have h2 := h.lt (ps.length - 1) (by omega)
  omega
theorem RF.unique {R S : List (List G)} {ps qs : List Nat} {c : Nat} (h1 : RF R ps c) (h2 : RF S qs c) (hs : ∀ v, Sp R v ↔ Sp S v) (hw : Wd R c) (hw2 : Wd S c) (hl : R.length = S.length) : R = S ∧ ps = qs := by
 have hp : ps = qs := pivots_eq h1 h2 (fun j _ => ⟨Ld.of (fun v => (hs v).1), Ld.of (fun v => (hs v).2)⟩)
 subst hp
 refine ⟨ext_row hl (fun i hi => ?_), rfl⟩
 apply ext_co
 ·rw [hw i hi, hw2 i (by omega)]
 ·intro j hj
  rw [hw i hi] at hj
  by_cases hi2 : i < ps.length
  ·rw [h2.coords ((hs _).1 (Sp.row hi)) hj, sum_single (k := i) hi2]
   ·rw [h1.unit i i hi hi2, if_pos rfl, one_mul]
   ·intro t ht hne
    rw [h1.unit i t hi ht, if_neg (fun e => hne e.symm), zero_mul]
  ·rw [h1.low i j (by omega) hi hj, h2.low i j (by omega) (by omega) hj]
end Go.Proofs.Ytanknpdibjfmlaa.Al
namespace Go.Proofs.Ytanknpdibjfmlaa.Al
set_option linter.unusedVariables false
set_option linter.unusedSimpArgs false
def one (n : Nat) (x : Nat → G) (j : Nat) : G := if j < n then x j else 1
theorem asc_nodup {ps : List Nat} (hp : ∀ s t, s < t → t < ps.length → ps.getD s 0 < ps.getD t 0) : ps.Nodup := by
 rw [List.Nodup, List.pairwise_iff_getElem]
 intro i j hi hj hij
 have := hp i j hij hj
 simp only [List.getD_eq_getElem?_getD, List.getElem?_eq_getElem hi, List.getElem?_eq_getElem hj, Option.getD_some] at this
 omega
theorem mem_getD {ps : List Nat} {x : Nat} : x ∈ ps ↔ ∃ t, t < ps.length ∧ ps.getD t 0 = x := by
 rw [List.mem_iff_getElem]
 constructor
 ·rintro ⟨t, ht, rfl⟩
  exact ⟨t, ht, by simp [List.getD_eq_getElem?_getD, List.getElem?_eq_getElem ht]⟩
 ·rintro ⟨t, ht, rfl⟩
  exact ⟨t, ht, by simp [List.getD_eq_getElem?_getD, List.getElem?_eq_getElem ht]⟩
theorem RF.mem' {R : List (List G)} {ps : List Nat} {c : Nat} (h : RF R ps c) {j : Nat} : j ∈ ps ↔ j < c ∧ Ld R j := by
 rw [mem_getD]
 constructor
 ·rintro ⟨t, ht, rfl⟩
  have := h.lt t ht
  exact ⟨this, (h.mem this).2 ⟨t, ht, rfl⟩⟩
 ·rintro ⟨h1, h2⟩
  exact (h.mem h1).1 h2
theorem rank_less {R S : List (List G)} {ps qs : List Nat} {c : Nat} (h1 : RF R ps c) (h2 : RF S qs c) (h : ∀ v, Sp R v → Sp S v) : ps.length ≤ qs.length :=
 (asc_nodup h1.asc).length_le_of_subset (fun j hj => by
  rw [h1.mem'] at hj
  exact h2.mem'.2 ⟨hj.1, Ld.of h hj.2⟩)
theorem rank_more {R S : List (List G)} {ps qs : List Nat} {c : Nat} (h1 : RF R ps c) (h2 : RF S qs c) (r : Nat → G) (h : ∀ v, Sp S v → ∃ a w, Sp R w ∧ ∀ j, v j = a * r j + w j) : qs.length ≤ ps.length + 1 := by
 have key : ∀ i j, i < j → i ∈ qs → j ∈ qs → i ∉ ps → j ∉ ps → False := by
  intro i j hij hi hj hi2 hj2
  rw [h2.mem'] at hi hj
  rw [h1.mem'] at hi2 hj2
  obtain ⟨v, hv, hvz, hvn⟩ := hi.2
  obtain ⟨w, hw, hwz, hwn⟩ := hj.2
  obtain ⟨a, v', hv', ea⟩ := h v hv
  obtain ⟨b, w', hw', eb⟩ := h w hw
  by_cases hb : b = 0
  ·refine hj2 ⟨hj.1, w', hw', ?_, ?_⟩
   ·intro k hk
    have := eb k
    rw [hb, zero_mul, zero_add, hwz k hk] at this
    exact this.symm
   ·have := eb j
    rw [hb, zero_mul, zero_add] at this
    rw [← this]
    exact hwn
  ·refine hi2 ⟨hi.1, fun k => v' k + (a * inv b) * w' k, hv'.add (hw'.mul _), ?_⟩
   have e : ∀ k, v' k + (a * inv b) * w' k = v k + (a * inv b) * w k := by
    intro k
    have hab : a * inv b * b = a := by rw [mul_assoc, inv_mul hb, mul_one]
    rw [ea k, eb k, mul_add, ← mul_assoc (a * inv b) b, hab]
    generalize a * r k = p
    generalize a * inv b * w' k = q
    rw [show p + v' k + (p + q) = (p + p) + (v' k + q) by ac_rfl, add_self, zero_add]
   constructor
   ·intro k hk
    dsimp only
    rw [e, hvz k hk, hwz k (by omega), mul_zero, add_zero]
   ·dsimp only
    rw [e, hwz i hij, mul_zero, add_zero]
    exact hvn
 by_cases hsub : ∃ x, x ∈ qs ∧ x ∉ ps
 ·obtain ⟨x, hx, hx2⟩ := hsub
  have hs : qs ⊆ x :: ps := by
   intro j hj
   by_cases hjp : j ∈ ps
   ·exact List.mem_cons_of_mem _ hjp
   ·rcases Nat.lt_trichotomy j x with e | e | e
    ·exact (key j x e hj hx hjp hx2).elim
    ·rw [e]; exact List.mem_cons_self
    ·exact (key x j e hx hj hx2 hjp).elim
  have := (asc_nodup h2.asc).length_le_of_subset hs
  rw [List.length_cons] at this
  exact this
 ·have hs : qs ⊆ ps := fun j hj => Classical.byContradiction (fun e => hsub ⟨j, hj, e⟩)
  have := (asc_nodup h2.asc).length_le_of_subset hs
  omega
theorem reduce_again {M : List (List G)} {c : Nat} (hw : Wd M c) : reduce (reduce M c).1 c = reduce M c := by
 have h := (reduce_RF (reduce M c).1 c).unique (reduce_RF M c) (fun v => reduce_span _ _ v) (reduce_width c (reduce_width c hw)) (reduce_width c hw) (by rw [reduce_length])
 exact Prod.ext h.1 h.2
theorem rank_snoc {M : List (List G)} {r : List G} {c : Nat} (h : Sp M (co r)) : (reduce (M ++ [r]) c).2 = (reduce M c).2 := by
 have hsp : ∀ v, Sp (M ++ [r]) v ↔ Sp M v := by
  intro v
  constructor
  ·refine Sp.le (fun i hi => ?_)
   rw [row_append]
   by_cases e : i < M.length
   ·rw [if_pos e]; exact Sp.row e
   ·rw [if_neg e]
    simp at hi
    rw [show i - M.length = 0 by omega]
    exact h
  ·refine Sp.le (fun i hi => ?_)
   have : row M i = row (M ++ [r]) i := by rw [row_append, if_pos hi]
   rw [this]
   exact Sp.row (by simp; omega)
 exact pivots_eq (reduce_RF _ _) (reduce_RF _ _) (fun j _ => ⟨Ld.of (fun v hv => (reduce_span _ _ v).2 ((hsp v).1 ((reduce_span _ _ v).1 hv))), Ld.of (fun v hv => (reduce_span _ _ v).2 ((hsp v).2 ((reduce_span _ _ v).1 hv)))⟩)
theorem rank_drop {M : List (List G)} {c : Nat} (hM : 0 < M.length) : (reduce (M.drop 1) c).2.length ≤ (reduce M c).2.length ∧ (reduce M c).2.length ≤ (reduce (M.drop 1) c).2.length + 1 := by
 have hl : (M.drop 1).length + 1 = M.length := by rw [List.length_drop]; omega
 constructor
 ·refine rank_less (reduce_RF _ _) (reduce_RF _ _) (fun v hv => (reduce_span _ _ v).2 (Sp.le (fun i hi => ?_) ((reduce_span _ _ v).1 hv)))
  rw [row_drop]
  exact Sp.row (by omega)
 ·refine rank_more (reduce_RF _ _) (reduce_RF _ _) (co (row M 0)) (fun v hv => ?_)
  obtain ⟨f, hf⟩ := (reduce_span _ _ v).1 hv
  refine ⟨f 0, fun j => sum (fun i => f (i + 1) * co (row (M.drop 1) i) j) (M.drop 1).length, (reduce_span _ _ _).2 ⟨fun i => f (i + 1), fun _ => rfl⟩, fun j => ?_⟩
  rw [hf, ← hl, sum_front]
  congr 1
  apply sum_congr
  intro i _
  rw [row_drop, Nat.add_comm 1 i]
end Go.Proofs.Ytanknpdibjfmlaa.Al
namespace Go.Proofs.Ytanknpdibjfmlaa.Al
open Go Go.RowKit Go.Proofs.YtanknpdibjfmlaaW.PrintWords Go.Proofs.YtanknpdibjfmlaaW.PrintMore Go.Proofs.Ytanknpdibjfmlaa.P
set_option linter.unusedVariables false
set_option linter.unusedSimpArgs false
theorem Ev.pos {α : Type} {c : Prop} [Decidable c] {A B : Nat → Option α} {r : α} (h : c) (hA : Ev A r) : Ev (fun k => if c then A k else B k) r := by
 simp only [if_pos h]; exact hA
theorem Ev.neg {α : Type} {c : Prop} [Decidable c] {A B : Nat → Option α} {r : α} (h : ¬ c) (hB : Ev B r) : Ev (fun k => if c then A k else B k) r := by
 simp only [if_neg h]; exact hB
theorem evc {α : Type} {g : Nat → Option α} {r r' : α} (h : Ev g r) (e : r = r') : Ev g r' := e ▸ h
theorem Ev.somef {α β : Type} {f : Nat → α → Option β} {a : α} {r : β} (h : Ev (fun k => f k a) r) : Ev (fun k => (some a).bind (f k)) r := h
theorem wrap_sm {x : Int} (h0 : -9223372036854775808 ≤ x) (h1 : x ≤ 9223372036854775807) : wrap64 x = x := by unfold wrap64; omega
def tm (a : G) : G := ⟨xt a.v⟩
theorem twice_all : ∀ a : Fin 256, gf_twice.f (a.val : Int) = some ((xt (BitVec.ofFin a)).toNat : Int) := by decide +kernel
theorem twice_i (a : G) : gf_twice.f a.i = some (tm a).i := twice_all a.v.toFin
theorem and_one {x : Int} (h0 : 0 ≤ x) (h1 : x < 256) : Go.bits .and .u8 x 1 = x % 2 := bits_mask .u8 8 (by decide) wraps_u8 1 (by decide) x h0 h1
def gmN : Nat → G → Nat → G
 | 0, _, _ => 0
 | n + 1, a, b => (if b % 2 = 1 then a else 0) + gmN n (tm a) (b / 2)
theorem gmN_zero (n : Nat) (a : G) : gmN n a 0 = 0 := by
 induction n generalizing a with
 | zero => rfl
 | succ n ih => rw [gmN, if_neg (by decide), Nat.zero_div, ih, add_zero]
theorem bit_cb (b : BitVec 8) (i : Nat) (a : G) : (if b.toNat / 2 ^ i % 2 = 1 then a else 0) = (⟨cb (b.getLsbD i) a.v⟩ : G) := by
 have h : b.getLsbD i = decide (b.toNat / 2 ^ i % 2 = 1) := by
  rw [BitVec.getLsbD, Nat.testBit_eq_decide_div_mod_eq]
 rw [h]
 by_cases e : b.toNat / 2 ^ i % 2 = 1
 ·rw [if_pos e, decide_eq_true e]; rfl
 ·rw [if_neg e, decide_eq_false e]; rfl
theorem mul_gmN (a b : G) : a * b = gmN 8 a b.v.toNat := by
 simp only [gmN, Nat.div_div_eq_div_mul]
 have h0 := bit_cb b.v 0 a
 simp only [Nat.pow_zero, Nat.div_one] at h0
 rw [h0, bit_cb b.v 1, bit_cb b.v 2, bit_cb b.v 3, bit_cb b.v 4, bit_cb b.v 5, bit_cb b.v 6, bit_cb b.v 7, add_zero]
 rfl
theorem mul_l0 (n : Nat) : ∀ (a : G) (b : Nat) (o : G), b < 2 ^ n → b < 256 → Ev (fun k => gf_Mul.l0 k a.i (b : Int) o.i) (o + gmN n a b).i := by
 induction n with
 | zero =>
  intro a b o h _
  obtain rfl : b = 0 := by omega
  refine Ev.step (fun k => gf_Mul.l0.eq_2 _ _ _ _) (Ev.pos rfl ?_)
  rw [gmN, add_zero]
  exact Ev.now _
 | succ n ih =>
  intro a b o h h1
  refine Ev.step (fun k => gf_Mul.l0.eq_2 _ _ _ _) ?_
  by_cases hb : b = 0
  ·subst hb
   refine Ev.pos rfl ?_
   rw [gmN_zero, add_zero]
   exact Ev.now _
  ·refine Ev.neg (by omega) ?_
   rw [and_one (by omega) (by omega), twice_i]
   have hd : ((b : Int) / 2) = ((b / 2 : Nat) : Int) := by omega
   rw [hd]
   by_cases ho : b % 2 = 1
   ·refine Ev.neg (by omega) ?_
    rw [xor_i]
    refine evc (ih (tm a) (b / 2) (o + a) (by rw [Nat.pow_succ] at h; omega) (by omega)) ?_
    rw [gmN, if_pos ho, add_assoc]
   ·refine Ev.pos (by omega) ?_
    refine evc (ih (tm a) (b / 2) o (by rw [Nat.pow_succ] at h; omega) (by omega)) ?_
    rw [gmN, if_neg ho, zero_add]
theorem mul_ev (a b : G) : Ev (fun k => gf_Mul.f k a.i b.i) (a * b).i := by
 have h := mul_l0 8 a b.v.toNat 0 b.v.isLt b.v.isLt
 rw [zero_add, ← mul_gmN] at h
 exact h
end Go.Proofs.Ytanknpdibjfmlaa.Al
namespace Go.Proofs.Ytanknpdibjfmlaa.Al
open Go Go.RowKit Go.Proofs.YtanknpdibjfmlaaW.PrintWords Go.Proofs.YtanknpdibjfmlaaW.PrintMore Go.Proofs.Ytanknpdibjfmlaa.P
set_option linter.unusedVariables false
set_option linter.unusedSimpArgs false
def bs (p : List G) : List Int := p.map G.i
theorem bs_length (p : List G) : (bs p).length = p.length := List.length_map _
theorem bs_cons (a : G) (p : List G) : bs (a :: p) = a.i :: bs p := rfl
theorem bs_append (p q : List G) : bs (p ++ q) = bs p ++ bs q := List.map_append
theorem bs_set (p : List G) (n : Nat) (a : G) : (bs p).set n a.i = bs (p.set n a) := List.map_set.symm
theorem bs_replicate (n : Nat) : List.replicate n (0 : Int) = bs (List.replicate n 0) := by rw [bs, List.map_replicate]; rfl
theorem rd_bs (p : List G) (n : Nat) : rd (bs p) (n : Int) = (co p n).i := by
 simp only [rd, bs, Int.toNat_natCast, co, List.getD_eq_getElem?_getD, List.getElem?_map]
 cases p[n]? <;> rfl
theorem of_bytes : ∀ l : List Int, (∀ x ∈ l, 0 ≤ x ∧ x < 256) → ∃ p, l = bs p := by
 intro l
 induction l with
 | nil => intro _; exact ⟨[], rfl⟩
 | cons a l ih =>
  intro h
  obtain ⟨p, rfl⟩ := ih (fun x hx => h x (List.mem_cons_of_mem _ hx))
  have ha := h a List.mem_cons_self
  exact ⟨G.of a :: p, by rw [bs_cons, i_of ha.1 ha.2]⟩
theorem wrap_succ {n : Nat} (h : n < 4611686018427387904) : wrap64 ((n : Int) + 1) = ((n + 1 : Nat) : Int) := by
 rw [wrap_sm (by omega) (by omega)]; omega
theorem clone_some (l : List Int) (h : l.length < 1000000000000) : slices_Clone_byte_byte.f l = some l := by
 unfold slices_Clone_byte_byte.f
 rw [if_pos (by omega)]
theorem and_one64 {x : Int} (h0 : 0 ≤ x) (h1 : x < 256) : Go.bits .and .i64 x 1 = x % 2 :=
 bits_mask .i64 8 (by decide) (fun n a b => by rw [IntKind.wrap_i64]; omega) 1 (by decide) x h0 h1
theorem power_odd {a o : G} {x : Int} {r : Int} (h0 : 0 < x) (h1 : x < 256) (ho : x % 2 = 1) (h : Ev (fun k => gf_power.l0 k (a * a).i (x / 2) (o * a).i) r) : Ev (fun k => gf_power.l0 k a.i x o.i) r := by
 refine Ev.step (fun k => gf_power.l0.eq_2 _ _ _ _) (Ev.pos h0 ?_)
 rw [and_one64 (by omega) h1]
 exact Ev.neg (by omega) (Ev.bind (mul_ev _ _) (Ev.bind (mul_ev _ _) h))
theorem power_even {a o : G} {x : Int} {r : Int} (h0 : 0 < x) (h1 : x < 256) (ho : x % 2 = 0) (h : Ev (fun k => gf_power.l0 k (a * a).i (x / 2) o.i) r) : Ev (fun k => gf_power.l0 k a.i x o.i) r := by
 refine Ev.step (fun k => gf_power.l0.eq_2 _ _ _ _) (Ev.pos h0 ?_)
 rw [and_one64 (by omega) h1]
 exact Ev.pos (by omega) (Ev.bind (mul_ev _ _) h)
theorem power_end (a o : G) : Ev (fun k => gf_power.l0 k a.i 0 o.i) o.i :=
 Ev.step (fun k => gf_power.l0.eq_2 _ _ _ _) (Ev.neg (by omega) (Ev.now _))
theorem inv_ev (a : G) : Ev (fun k => gf_Inv.f k a.i) (inv a).i := by
 refine Ev.congr (fun k => gf_Inv.f.eq_1 _ _) (Ev.bind (a := (inv a).i) ?_ (Ev.now _))
 refine Ev.congr (fun k => gf_power.f.eq_1 _ _ _) ?_
 have : Ev (fun k => gf_power.l0 k a.i 254 (1 : G).i) (inv a).i := by
  refine power_even (by omega) (by omega) (by decide) ?_
  refine power_odd (by omega) (by omega) (by decide) ?_
  refine power_odd (by omega) (by omega) (by decide) ?_
  refine power_odd (by omega) (by omega) (by decide) ?_
  refine power_odd (by omega) (by omega) (by decide) ?_
  refine power_odd (by omega) (by omega) (by decide) ?_
  refine power_odd (by omega) (by omega) (by decide) ?_
  refine power_odd (by omega) (by omega) (by decide) ?_
  refine evc (power_end _ _) ?_
  rw [one_mul]
  rfl
 exact this
end Go.Proofs.Ytanknpdibjfmlaa.Al
namespace Go.Proofs.Ytanknpdibjfmlaa.Al
open Go Go.RowKit Go.Proofs.YtanknpdibjfmlaaW.PrintWords Go.Proofs.YtanknpdibjfmlaaW.PrintMore Go.Proofs.Ytanknpdibjfmlaa.P
set_option linter.unusedVariables false
set_option linter.unusedSimpArgs false
theorem rd_drop {l : List Int} {n : Nat} (h : n < l.length) : l.drop n = rd l (n : Int) :: l.drop (n + 1) := by
 rw [List.drop_eq_getElem_cons h]
 simp [rd, List.getD_eq_getElem?_getD, List.getElem?_eq_getElem h]
theorem same_l0 (a b : List Int) (hl : a.length = b.length) (ha : a.length < 1000000000000) (d : Nat) : ∀ n : Nat, n + d = a.length → Ev (fun k => footlockerref01_Same.l0 k a b (n : Int)) (decide (a.drop n = b.drop n)) := by
 induction d with
 | zero =>
  intro n hn
  refine Ev.step (fun k => footlockerref01_Same.l0.eq_2 _ _ _ _) (Ev.neg (by omega) ?_)
  rw [List.drop_of_length_le (by omega), List.drop_of_length_le (by omega)]
  exact Ev.now _
 | succ d ih =>
  intro n hn
  refine Ev.step (fun k => footlockerref01_Same.l0.eq_2 _ _ _ _) (Ev.pos (by omega) (Ev.pos (by omega) (Ev.pos (by omega) ?_)))
  rw [rd_drop (show n < a.length by omega), rd_drop (show n < b.length by omega)]
  by_cases e : rd a (n : Int) = rd b (n : Int)
  ·refine Ev.pos e ?_
   rw [wrap_succ (by omega)]
   refine evc (ih (n + 1) (by omega)) ?_
   rw [e]
   simp
  ·refine Ev.neg e ?_
   rw [decide_eq_false (by intro h; exact e (List.cons.inj h).1)]
   exact Ev.now _
theorem same_ev (a b : List Int) (ha : a.length < 1000000000000) : Ev (fun k => footlockerref01_Same.f k a b) (decide (a = b)) := by
 refine Ev.congr (fun k => footlockerref01_Same.f.eq_1 _ _ _) ?_
 by_cases hl : a.length = b.length
 ·refine Ev.pos (by omega) ?_
  have := same_l0 a b hl ha a.length 0 (by omega)
  rw [List.drop_zero, List.drop_zero] at this
  exact this
 ·refine Ev.neg (by omega) ?_
  rw [decide_eq_false (by rintro rfl; exact hl rfl)]
  exact Ev.now _
theorem wf_u8 {x : Int} (h : (Lit.int .u8 x).wf = true) : 0 ≤ x ∧ x < 256 := by
 simp [Lit.wf, IntKind.min, IntKind.max, IntKind.bits, IntKind.signed] at h
 omega
theorem bytes_in {l : List Int} (h : ∀ x ∈ l, (Lit.int .u8 x).wf = true) : ∃ p, l = bs p := of_bytes l (fun x hx => wf_u8 (h x hx))
theorem same_true {a b : List Int} (h : a = b) (ha : a.length < 1000000000000) : Ev (fun k => footlockerref01_Same.f k a b) true := by
 have := same_ev a b ha
 rwa [decide_eq_true h] at this
theorem and_le (x : Int) (m : Nat) (hm : m < 1000000) : ∃ c : Nat, c ≤ m ∧ Go.bits .and .i64 x (m : Int) = (c : Int) := by
 have hmm : (BitVec.ofInt 64 (m : Int)).toNat = m := by
  rw [BitVec.ofInt_natCast, BitVec.toNat_ofNat]
  omega
 have h : (BitVec.ofInt 64 x &&& BitVec.ofInt 64 (m : Int)).toNat ≤ m := by
  rw [BitVec.toNat_and, hmm]
  exact Nat.and_le_right
 refine ⟨(BitVec.ofInt 64 x &&& BitVec.ofInt 64 (m : Int)).toNat, h, ?_⟩
 show IntKind.i64.wrap _ = _
 rw [IntKind.wrap_i64]
 show (((BitVec.ofInt 64 x &&& BitVec.ofInt 64 (m : Int)).toNat : Int) + _) % _ - _ = _
 omega
end Go.Proofs.Ytanknpdibjfmlaa.Al
namespace Go.Proofs.Ytanknpdibjfmlaa.Al
open Go Go.RowKit Go.Proofs.YtanknpdibjfmlaaW.PrintWords Go.Proofs.YtanknpdibjfmlaaW.PrintMore Go.Proofs.Ytanknpdibjfmlaa.P
set_option linter.unusedVariables false
set_option linter.unusedSimpArgs false
def bss (M : List (List G)) : List (List Int) := M.map bs
theorem bss_length (M : List (List G)) : (bss M).length = M.length := List.length_map _
theorem rd_bss (M : List (List G)) (i : Nat) : rd_L1 (bss M) (i : Int) = bs (row M i) := by
 simp only [rd_L1, bss, Int.toNat_natCast, row, List.getD_eq_getElem?_getD, List.getElem?_map]
 cases M[i]? <;> rfl
theorem rd_bss0 (M : List (List G)) : rd_L1 (bss M) 0 = bs (row M 0) := rd_bss M 0
theorem bss_set (M : List (List G)) (n : Nat) (r : List G) : (bss M).set n (bs r) = bss (M.set n r) := List.map_set.symm
theorem bss_snoc (M : List (List G)) (r : List G) : bss M ++ [bs r] = bss (M ++ [r]) := by simp [bss]
theorem bss_drop (M : List (List G)) (n : Nat) : (bss M).drop n = bss (M.drop n) := List.map_drop.symm
theorem rows_in : ∀ l : List (List Int), (∀ x ∈ l, ∀ y ∈ x, (Lit.int .u8 y).wf = true) → ∃ M, l = bss M := by
 intro l
 induction l with
 | nil => intro _; exact ⟨[], rfl⟩
 | cons a l ih =>
  intro h
  obtain ⟨M, rfl⟩ := ih (fun x hx => h x (List.mem_cons_of_mem _ hx))
  obtain ⟨p, rfl⟩ := bytes_in (h a List.mem_cons_self)
  exact ⟨p :: M, rfl⟩
def wid (M : List (List G)) : Nat := (row M 0).length
def Rt (M : List (List G)) : Prop := Wd M (wid M)
instance (M : List (List G)) : Decidable (Rt M) := Nat.decidableBallLT M.length (fun i _ => (row M i).length = wid M)
theorem row_snoc_take {M : List (List G)} {n : Nat} (h : n < M.length) : M.take n ++ [row M n] = M.take (n + 1) := by
 rw [List.take_succ_eq_append_getElem h, row_lt h]
def Fit (M : List (List G)) : Prop := M.length < 1000000 ∧ ∀ i, i < M.length → (row M i).length < 1000000
theorem Fit.of {M : List (List G)} {w : Nat} (h1 : M.length < 1000000) (hw : Wd M w) (h2 : w < 1000000) : Fit M := ⟨h1, fun i hi => by rw [hw i hi]; exact h2⟩
theorem Fit.wid {M : List (List G)} (h : Fit M) : wid M < 1000000 := by
 unfold Al.wid
 by_cases e : 0 < M.length
 ·exact h.2 0 e
 ·rw [row_ge (by omega)]; decide
theorem fidx_idx {α : Type} (p : α → Bool) : ∀ (l : List α) (i : Nat), fidx p l i = if l.findIdx p < l.length then ((i + l.findIdx p : Nat) : Int) else -1 := by
 intro l
 induction l with
 | nil => intro i; rfl
 | cons a l ih =>
  intro i
  rw [fidx, List.findIdx_cons]
  cases h : p a with
  | true => simp
  | false =>
   rw [if_neg (by simp), ih]
   simp only [Bool.cond_false, List.length_cons]
   by_cases e : l.findIdx p < l.length
   ·rw [if_pos e, if_pos (by omega)]; omega
   ·rw [if_neg e, if_neg (by omega)]
theorem findIdx_bss (p : List Int → Bool) (q : List G → Bool) (h : ∀ r, p (bs r) = q r) (M : List (List G)) : (bss M).findIdx p = M.findIdx q := by
 rw [bss, List.findIdx_map]
 congr 1
 funext r
 exact h r
theorem right_some (M : List (List G)) : linear_Right.f (bss M) = some (decide (Rt M)) := by
 unfold linear_Right.f
 congr 1
 rw [fidx_idx, findIdx_bss _ (fun r => decide (r.length ≠ wid M)) (fun r => by
  rw [rd_bss0, bs_length, bs_length]
  show (!((r.length : Int) == ((row M 0).length : Int))) = _
  unfold wid
  by_cases e : r.length = (row M 0).length
  ·rw [decide_eq_false (by simp [e])]
   simp [e]
  ·rw [decide_eq_true e]
   simp
   omega), bss_length]
 by_cases h : M.findIdx (fun r => decide (r.length ≠ wid M)) < M.length
 ·rw [if_pos h, decide_eq_true (by omega)]
  have h2 := List.findIdx_getElem (w := h)
  rw [← row_lt h] at h2
  rw [decide_eq_false (fun hr => (of_decide_eq_true h2) (hr _ h))]
  rfl
 ·rw [if_neg h, decide_eq_false (by omega)]
  have hr : Rt M := by
   intro i hi
   have h3 := List.not_of_lt_findIdx (p := fun r => decide (r.length ≠ wid M)) (xs := M) (i := i) (by omega)
   rw [← row_lt hi] at h3
   simpa using h3
  rw [decide_eq_true hr]
  rfl
theorem clone_l0 (M : List (List G)) (hM : Fit M) (d : Nat) : ∀ n : Nat, n + d = M.length → Ev (fun k => linear_clone.l0 k (bss (M.take n)) (bss M) (M.length : Int) (n : Int)) (bss M) := by
 have h1 := hM.1
 induction d with
 | zero =>
  intro n hn
  refine Ev.step (fun k => linear_clone.l0.eq_2 _ _ _ _ _) (Ev.neg (by omega) ?_)
  rw [List.take_of_length_le (by omega)]
  exact Ev.now _
 | succ d ih =>
  intro n hn
  refine Ev.step (fun k => linear_clone.l0.eq_2 _ _ _ _ _) (Ev.pos (by omega) (Ev.pos (by omega) (Ev.pos (by rw [bss_length]; omega) ?_)))
  have h2 := hM.2 n (by omega)
  rw [rd_bss, clone_some _ (by rw [bs_length]; omega)]
  refine Ev.somef (Ev.pos (by rw [bss_length, List.length_take]; omega) ?_)
  rw [bss_snoc, row_snoc_take (by omega), wrap_succ (by omega)]
  exact ih (n + 1) (by omega)
theorem clone_ev (M : List (List G)) (hM : Fit M) : Ev (fun k => linear_clone.f k (bss M)) (bss M) := by
 refine Ev.congr (fun k => linear_clone.f.eq_1 _ _) ?_
 rw [bss_length]
 exact clone_l0 M hM M.length 0 (by omega)
theorem width_some (M : List (List G)) : linear_width.f (bss M) = some (wid M : Int) := by
 unfold linear_width.f
 rw [bss_length]
 by_cases h : (M.length : Int) = 0
 ·rw [if_pos h, wid, row_ge (by omega)]
  rfl
 ·rw [if_neg h, if_pos (by omega), rd_bss0, bs_length]
  rfl
theorem scaleB_l0 (a : G) (p : List G) (hp : p.length < 1000000) (d : Nat) : ∀ (n : Nat) (o : List G), n + d = p.length → o.length = p.length → (∀ j, j < n → co o j = co p j * a) →
 Ev (fun k => gf_Scale.l0 k a.i (bs o) (bs p) (p.length : Int) (n : Int)) (bs (scale a p)) := by
 induction d with
 | zero =>
  intro n o hn ho h
  refine Ev.step (fun k => gf_Scale.l0.eq_2 _ _ _ _ _ _) (Ev.neg (by omega) ?_)
  have : o = scale a p := ext_co (by rw [scale_length, ho]) (fun j hj => by rw [h j (by omega), co_scale, mul_comm])
  rw [this]
  exact Ev.now _
 | succ d ih =>
  intro n o hn ho h
  refine Ev.step (fun k => gf_Scale.l0.eq_2 _ _ _ _ _ _) (Ev.pos (by omega) (Ev.pos (by omega) (Ev.pos (by rw [bs_length]; omega) ?_)))
  rw [rd_bs]
  refine Ev.bind (mul_ev _ _) (Ev.pos (by rw [bs_length]; omega) ?_)
  rw [Int.toNat_natCast, bs_set, wrap_succ (by omega)]
  refine ih (n + 1) _ (by omega) (by rw [List.length_set]; exact ho) (fun j hj => ?_)
  rw [co_set _ _ _ _ (by omega)]
  by_cases e : j = n
  ·rw [if_pos e, e]
  ·rw [if_neg e, h j (by omega)]
theorem scaleB_ev (a : G) (p : List G) (hp : p.length < 1000000) : Ev (fun k => gf_Scale.f k (bs p) a.i) (bs (scale a p)) := by
 refine Ev.congr (fun k => gf_Scale.f.eq_1 _ _ _) ?_
 rw [bs_length, Int.toNat_natCast, bs_replicate]
 exact Ev.pos (by omega) (Ev.pos (by omega) (scaleB_l0 a p hp p.length 0 _ (by omega) List.length_replicate (fun j hj => by omega)))
theorem take_l0 (s r : List G) (by_ : G) (hs : s.length = r.length) (hr : r.length < 1000000) (d : Nat) : ∀ (n : Nat) (o : List G), n + d = s.length → o.length = r.length → (∀ j, co o j = if j < n then co r j + co s j * by_ else co r j) →
 Ev (fun k => linear_take.l0 k (bs o) by_.i (bs s) (s.length : Int) (n : Int)) (bs (zadd r (scale by_ s))) := by
 induction d with
 | zero =>
  intro n o hn ho h
  refine Ev.step (fun k => linear_take.l0.eq_2 _ _ _ _ _ _) (Ev.neg (by omega) ?_)
  have : o = zadd r (scale by_ s) := ext_co (by rw [zadd_length, scale_length, ho, hs, Nat.max_self]) (fun j hj => by rw [h j, if_pos (by omega), co_zadd, co_scale, mul_comm])
  rw [this]
  exact Ev.now _
 | succ d ih =>
  intro n o hn ho h
  refine Ev.step (fun k => linear_take.l0.eq_2 _ _ _ _ _ _) (Ev.pos (by omega) (Ev.pos (by omega) (Ev.pos (by rw [bs_length]; omega) (Ev.pos (by rw [bs_length]; omega) ?_))))
  rw [rd_bs, rd_bs]
  refine Ev.bind (mul_ev _ _) ?_
  rw [Int.toNat_natCast, xor_i, bs_set, wrap_succ (by omega)]
  refine ih (n + 1) _ (by omega) (by rw [List.length_set]; exact ho) (fun j => ?_)
  rw [co_set _ _ _ _ (by omega)]
  by_cases e : j = n
  ·rw [if_pos e, e, if_pos (by omega), h n, if_neg (by omega)]
  ·rw [if_neg e, h j]
   by_cases h2 : j < n
   ·rw [if_pos h2, if_pos (by omega)]
   ·rw [if_neg h2, if_neg (by omega)]
theorem take_ev (s r : List G) (by_ : G) (hs : s.length = r.length) (hr : r.length < 1000000) : Ev (fun k => linear_take.f k (bs s) (bs r) by_.i) (bs (zadd r (scale by_ s))) := by
 refine Ev.congr (fun k => linear_take.f.eq_1 _ _ _ _) ?_
 rw [bs_length]
 exact take_l0 s r by_ hs hr s.length 0 r (by omega) rfl (fun j => by rw [if_neg (Nat.not_lt_zero _)])
theorem row_sw {M : List (List G)} {a u k : Nat} (ha : a < M.length) (hu : u < M.length) : row ((M.set a (row M u)).set u (row M a)) k = swp M a u k := by
 rw [row_set _ _ _ _ (by rw [List.length_set]; exact hu), row_set _ _ _ _ ha]
 unfold swp
 by_cases h1 : k = a
 ·rw [if_pos h1, if_pos h1]
  by_cases h2 : k = u
  ·rw [if_pos h2]
   rw [← h1, h2]
  ·rw [if_neg h2]
 ·rw [if_neg h1, if_neg h1]
theorem sw_bss (M : List (List G)) (a u : Nat) : linear_pivot.sw (bss M) a u = bss ((M.set a (row M u)).set u (row M a)) := by
 have e : ∀ i, (bss M).getD i [] = bs (row M i) := fun i => by
  have := rd_bss M i
  rwa [rd_L1, Int.toNat_natCast] at this
 unfold linear_pivot.sw
 rw [e, e, bss_set, bss_set]
theorem piv_length {M : List (List G)} {w c u : Nat} (hw : Wd M w) (hu : u < M.length) : (piv M c u).length = w := by rw [piv, scale_length, hw u hu]
theorem pivot_l0 (M : List (List G)) (w a c u : Nat) (hM : M.length < 1000000) (hw : Wd M w) (hw2 : w < 1000000) (ha : a < M.length) (hu : u < M.length) (hc : c < w) (d : Nat) : ∀ (n : Nat) (N : List (List G)), n + d = M.length → N.length = M.length →
 (∀ k, k < M.length → row N k = if k = a then piv M c u else if k < n then row (elim M a c u) k else swp M a u k) →
 Ev (fun k => linear_pivot.l0 k (bss N) (a : Int) (c : Int) (M.length : Int) (n : Int)) (bss (elim M a c u)) := by
 induction d with
 | zero =>
  intro n N hn hN h
  refine Ev.step (fun k => linear_pivot.l0.eq_2 _ _ _ _ _ _) (Ev.neg (by omega) ?_)
  have : N = elim M a c u := by
   apply ext_row
   ·rw [hN, elim_length]
   ·intro i hi
    rw [h i (by omega)]
    by_cases e : i = a
    ·rw [if_pos e, e, row_elim ha, if_pos rfl]
    ·rw [if_neg e, if_pos (by omega)]
  rw [this]
  exact Ev.now _
 | succ d ih =>
  intro n N hn hN h
  refine Ev.step (fun k => linear_pivot.l0.eq_2 _ _ _ _ _ _) (Ev.pos (by omega) (Ev.pos (by omega) (Ev.pos (by rw [bss_length]; omega) (Ev.pos (by omega) (Ev.pos (by rw [bss_length]; omega) ?_)))))
  rw [rd_bss, rd_bss, wrap_succ (by omega)]
  by_cases e : n = a
  ·refine Ev.pos (by omega) (ih (n + 1) N (by omega) hN (fun k hk => ?_))
   rw [h k hk]
   by_cases e2 : k = a
   ·rw [if_pos e2, if_pos e2]
   ·rw [if_neg e2, if_neg e2]
    by_cases e3 : k < n
    ·rw [if_pos e3, if_pos (by omega)]
    ·rw [if_neg e3, if_neg (by omega)]
  ·have hr : row N n = swp M a u n := by rw [h n (by omega), if_neg e, if_neg (Nat.lt_irrefl _)]
   have hs : row N a = piv M c u := by rw [h a ha, if_pos rfl]
   have hrl := swp_width hw ha hu (k := n) (by omega)
   refine Ev.neg (by omega) (Ev.pos (by omega) ?_)
   rw [hr, hs]
   refine Ev.pos (by rw [bs_length]; omega) ?_
   rw [rd_bs]
   refine Ev.bind (take_ev _ _ _ (by rw [piv_length hw hu, hrl]) (by omega)) ?_
   rw [Int.toNat_natCast, bss_set]
   refine ih (n + 1) _ (by omega) (by rw [List.length_set]; exact hN) (fun k hk => ?_)
   rw [row_set _ _ _ _ (by omega)]
   by_cases e2 : k = n
   ·rw [if_pos e2, e2, if_neg e, if_pos (by omega), row_elim (by omega), if_neg e]
   ·rw [if_neg e2, h k hk]
    by_cases e3 : k = a
    ·rw [if_pos e3, if_pos e3]
    ·rw [if_neg e3, if_neg e3]
     by_cases e4 : k < n
     ·rw [if_pos e4, if_pos (by omega)]
     ·rw [if_neg e4, if_neg (by omega)]
theorem fidx_fnd (M : List (List G)) (a c : Nat) : fidx (fun x => !(rd x (c : Int) == 0)) ((bss M).drop a) 0 = if fnd M a c < M.length then ((fnd M a c - a : Nat) : Int) else -1 := by
 rw [bss_drop, fidx_idx, findIdx_bss _ (fun r => decide (co r c ≠ 0)) (fun r => by
  rw [rd_bs]
  by_cases e : co r c = 0
  ·rw [decide_eq_false (by simp [e]), e]
   rfl
  ·rw [decide_eq_true e]
   have : (co r c).i ≠ 0 := fun h => e (i_eq_zero.1 h)
   simp [this]), bss_length, List.length_drop]
 have hle := List.findIdx_le_length (p := fun r => decide (co r c ≠ 0)) (xs := M.drop a)
 rw [List.length_drop] at hle
 unfold fnd
 generalize List.findIdx (fun r => decide (co r c ≠ 0)) (M.drop a) = f at hle
 by_cases h : f < M.length - a
 ·rw [if_pos h, if_pos (by omega)]; omega
 ·rw [if_neg h, if_neg (by omega)]
theorem pivot_pre {M : List (List G)} {w c : Nat} (hw : Wd M w) (hc : c < w) : ((bss M).all fun x => decide ((c : Int) < (x.length : Int))) = true := by
 rw [List.all_eq_true]
 intro x hx
 rw [bss, List.mem_map] at hx
 obtain ⟨r, hr, rfl⟩ := hx
 obtain ⟨i, hi, rfl⟩ := List.mem_iff_getElem.1 hr
 have := hw i hi
 rw [row_lt hi] at this
 rw [bs_length, this]
 exact decide_eq_true (by omega)
theorem pivot_no {M : List (List G)} {w a c : Nat} (hw : Wd M w) (ha : a < M.length) (hc : c < w) (hf : ¬ fnd M a c < M.length) : Ev (fun k => linear_pivot.f k (bss M) (a : Int) (c : Int)) (bss M, false) := by
 refine Ev.congr (fun k => linear_pivot.f.eq_1 _ _ _ _) (Ev.pos (by omega) (Ev.pos (by rw [bss_length]; omega) (Ev.pos (by omega) (Ev.pos (pivot_pre hw hc) ?_))))
 rw [Int.toNat_natCast, fidx_fnd, if_neg hf]
 exact Ev.pos (by omega) (Ev.now _)
theorem pivot_yes {M : List (List G)} {w a c : Nat} (hM : M.length < 1000000) (hw : Wd M w) (hw2 : w < 1000000) (ha : a < M.length) (hc : c < w) (hf : fnd M a c < M.length) : Ev (fun k => linear_pivot.f k (bss M) (a : Int) (c : Int)) (bss (elim M a c (fnd M a c)), true) := by
 have hle := fnd_le M a c
 refine Ev.congr (fun k => linear_pivot.f.eq_1 _ _ _ _) (Ev.pos (by omega) (Ev.pos (by rw [bss_length]; omega) (Ev.pos (by omega) (Ev.pos (pivot_pre hw hc) ?_))))
 rw [Int.toNat_natCast, fidx_fnd, if_pos hf]
 refine Ev.neg (by omega) ?_
 have e : ((a : Int) + ((fnd M a c - a : Nat) : Int)).toNat = fnd M a c := by omega
 rw [e, sw_bss, rd_bss, row_sw ha hf]
 have e2 : swp M a (fnd M a c) a = row M (fnd M a c) := by unfold swp; rw [if_pos rfl]
 rw [e2, rd_bs]
 refine Ev.bind (inv_ev _) (Ev.bind (scaleB_ev _ _ (by rw [hw _ hf]; exact hw2)) ?_)
 rw [bss_set, bss_length]
 refine Ev.bind (pivot_l0 M w a c (fnd M a c) hM hw hw2 ha hf hc M.length 0 _ (by omega) (by simp) (fun k hk => ?_)) (Ev.now _)
 rw [row_set _ _ _ _ (by simp; exact ha), row_sw ha hf]
 by_cases h : k = a
 ·rw [if_pos h, if_pos h]; rfl
 ·rw [if_neg h, if_neg h, if_neg (Nat.not_lt_zero _)]
def psI (ps : List Nat) : List Int := ps.map (fun x : Nat => (x : Int))
theorem psI_length (ps : List Nat) : (psI ps).length = ps.length := List.length_map _
theorem psI_snoc (ps : List Nat) (c : Nat) : psI ps ++ [(c : Int)] = psI (ps ++ [c]) := by simp [psI]
theorem fnd_end {M : List (List G)} {a c : Nat} (h : M.length ≤ a) : ¬ fnd M a c < M.length := by
 have := fnd_le M a c
 omega
theorem reduce_l0 (w b : Nat) (hw2 : w < 1000000) (hb : b ≤ w) (d : Nat) : ∀ (M : List (List G)) (ps : List Nat) (c : Nat), M.length < 1000000 → Wd M w → ps.length ≤ M.length → c + d = b →
 Ev (fun k => linear_Reduce.l0 k (M.length : Int) (bss M) (psI ps) (b : Int) (c : Int)) (bss (red d M ps c).1, psI (red d M ps c).2) := by
 induction d with
 | zero =>
  intro M ps c hM hw hp hc
  exact Ev.step (fun k => linear_Reduce.l0.eq_2 _ _ _ _ _ _) (Ev.neg (by omega) (Ev.now _))
 | succ d ih =>
  intro M ps c hM hw hp hc
  refine Ev.step (fun k => linear_Reduce.l0.eq_2 _ _ _ _ _ _) (Ev.pos (by omega) ?_)
  rw [psI_length, wrap_succ (by omega)]
  unfold red
  by_cases hlt : ps.length < M.length
  ·refine Ev.pos (by omega) ?_
   by_cases hf : fnd M ps.length c < M.length
   ·rw [if_pos hf]
    refine Ev.bind (pivot_yes hM hw hw2 hlt (by omega) hf) (Ev.pos rfl (Ev.pos (by omega) ?_))
    rw [psI_snoc]
    have := ih (elim M ps.length c (fnd M ps.length c)) (ps ++ [c]) (c + 1) (by rw [elim_length]; exact hM) (elim_width hw hlt hf) (by rw [elim_length]; simp; omega) (by omega)
    rw [elim_length] at this
    exact this
   ·rw [if_neg hf]
    exact Ev.bind (pivot_no hw hlt (by omega) hf) (Ev.neg (by simp) (ih M ps (c + 1) hM hw hp (by omega)))
  ·rw [if_neg (fnd_end (by omega))]
   exact Ev.neg (by omega) (ih M ps (c + 1) hM hw hp (by omega))
def cols (a : Int) (w : Nat) : Nat := min a.toNat w
theorem cols_eq (a : Int) (w : Nat) : mn (mx a 0) (w : Int) = (cols a w : Int) := by
 unfold mn mx cols
 split <;> split <;> omega
theorem reduce_ev (M : List (List G)) (a : Int) (hM : Fit M) (hr : Rt M) : Ev (fun k => linear_Reduce.f k (bss M) a) (bss (reduce M (cols a (wid M))).1, psI (reduce M (cols a (wid M))).2) := by
 refine Ev.congr (fun k => linear_Reduce.f.eq_1 _ _ _) ?_
 rw [right_some, decide_eq_true hr]
 refine Ev.somef (Ev.pos rfl (Ev.bind (clone_ev M hM) ?_))
 rw [width_some]
 refine Ev.somef ?_
 rw [cols_eq, bss_length]
 exact reduce_l0 (wid M) (cols a (wid M)) hM.wid (Nat.min_le_right _ _) (cols a (wid M)) M [] 0 hM.1 hr (Nat.zero_le _) (Nat.zero_add _)
theorem cols_nat (n w : Nat) : cols (n : Int) w = min n w := by unfold cols; rw [Int.toNat_natCast]
theorem rank_ev (M : List (List G)) (hM : Fit M) (hr : Rt M) : Ev (fun k => linear_Rank.f k (bss M)) ((reduce M (wid M)).2.length : Int) := by
 refine Ev.congr (fun k => linear_Rank.f.eq_1 _ _) ?_
 rw [width_some]
 refine Ev.somef (Ev.bind (reduce_ev M _ hM hr) ?_)
 rw [cols_nat, Nat.min_self]
 dsimp only
 rw [psI_length]
 exact Ev.now _
end Go.Proofs.Ytanknpdibjfmlaa.Al
namespace Go.Proofs.Ytanknpdibjfmlaa.Al
open Go Go.RowKit Go.Proofs.YtanknpdibjfmlaaW.PrintWords Go.Proofs.YtanknpdibjfmlaaW.PrintMore Go.Proofs.Ytanknpdibjfmlaa.P
set_option linter.unusedVariables false
set_option linter.unusedSimpArgs false
theorem refright_l0 (M : List (List G)) (hM : M.length < 1000000) (d : Nat) : ∀ n : Nat, n + d = M.length → 0 < n → (∀ i, i < n → (row M i).length = wid M) → Ev (fun k => footlockerref03_Right.l0 k (bss M) (n : Int)) (decide (Rt M)) := by
 induction d with
 | zero =>
  intro n hn _ h
  refine Ev.step (fun k => footlockerref03_Right.l0.eq_2 _ _ _) (Ev.neg (by rw [bss_length]; omega) ?_)
  rw [decide_eq_true (show Rt M from fun i hi => h i (by omega))]
  exact Ev.now _
 | succ d ih =>
  intro n hn h0 h
  refine Ev.step (fun k => footlockerref03_Right.l0.eq_2 _ _ _) (Ev.pos (by rw [bss_length]; omega) (Ev.pos (by omega) (Ev.pos (by rw [bss_length]; omega) ?_)))
  rw [rd_bss, rd_bss0, bs_length, bs_length, wrap_succ (by omega)]
  by_cases e : (row M n).length = wid M
  ·refine Ev.pos (by unfold wid at e; omega) (ih (n + 1) (by omega) (by omega) (fun i hi => ?_))
   by_cases e2 : i = n
   ·rw [e2]; exact e
   ·exact h i (by omega)
  ·refine Ev.neg (by unfold wid at e; omega) ?_
   rw [decide_eq_false (fun hr : Rt M => e (hr n (by omega)))]
   exact Ev.now _
theorem refright_ev (M : List (List G)) (hM : M.length < 1000000) : Ev (fun k => footlockerref03_Right.f k (bss M)) (decide (Rt M)) := by
 refine Ev.congr (fun k => footlockerref03_Right.f.eq_1 _ _) ?_
 by_cases h : 0 < M.length
 ·exact refright_l0 M hM (M.length - 1) 1 (by omega) (by omega) (fun i hi => by rw [show i = 0 by omega]; rfl)
 ·refine Ev.step (fun k => footlockerref03_Right.l0.eq_2 _ _ _) (Ev.neg (by rw [bss_length]; omega) ?_)
  rw [decide_eq_true (show Rt M from fun i hi => by omega)]
  exact Ev.now _
theorem sameR_l0 (M : List (List G)) (hM : Fit M) (d : Nat) : ∀ n : Nat, n + d = M.length → Ev (fun k => footlockerref03_Same.l0 k (bss M) (bss M) (n : Int)) true := by
 have h1 := hM.1
 induction d with
 | zero =>
  intro n hn
  exact Ev.step (fun k => footlockerref03_Same.l0.eq_2 _ _ _ _) (Ev.neg (by rw [bss_length]; omega) (Ev.now _))
 | succ d ih =>
  intro n hn
  refine Ev.step (fun k => footlockerref03_Same.l0.eq_2 _ _ _ _) (Ev.pos (by rw [bss_length]; omega) (Ev.pos (by omega) (Ev.pos (by rw [bss_length]; omega) ?_)))
  rw [rd_bss, wrap_succ (by omega)]
  exact Ev.bind (same_true rfl (by rw [bs_length]; have := hM.2 n (by omega); omega)) (Ev.pos rfl (ih (n + 1) (by omega)))
theorem sameR_ev (M : List (List G)) (hM : Fit M) : Ev (fun k => footlockerref03_Same.f k (bss M) (bss M)) true :=
 Ev.congr (fun k => footlockerref03_Same.f.eq_1 _ _ _) (Ev.pos rfl (sameR_l0 M hM M.length 0 (Nat.zero_add _)))
theorem sameI_l0 (a : List Int) (ha : a.length < 1000000) (d : Nat) : ∀ n : Nat, n + d = a.length → Ev (fun k => footlockerref01_SameInts.l0 k a a (n : Int)) true := by
 induction d with
 | zero =>
  intro n hn
  exact Ev.step (fun k => footlockerref01_SameInts.l0.eq_2 _ _ _ _) (Ev.neg (by omega) (Ev.now _))
 | succ d ih =>
  intro n hn
  refine Ev.step (fun k => footlockerref01_SameInts.l0.eq_2 _ _ _ _) (Ev.pos (by omega) (Ev.pos (by omega) (Ev.pos (by omega) (Ev.pos rfl ?_))))
  rw [wrap_succ (by omega)]
  exact ih (n + 1) (by omega)
theorem sameI_ev (a : List Int) (ha : a.length < 1000000) : Ev (fun k => footlockerref01_SameInts.f k a a) true :=
 Ev.congr (fun k => footlockerref01_SameInts.f.eq_1 _ _ _) (Ev.pos rfl (sameI_l0 a ha a.length 0 (Nat.zero_add _)))
end Go.Proofs.Ytanknpdibjfmlaa.Al
namespace Go.Proofs.Ytanknpdibjfmlaa.Al
open Go Go.RowKit Go.Proofs.YtanknpdibjfmlaaW.PrintWords Go.Proofs.YtanknpdibjfmlaaW.PrintMore Go.Proofs.Ytanknpdibjfmlaa.P
set_option linter.unusedVariables false
set_option linter.unusedSimpArgs false
theorem alive_ev : Ev (fun k => footlockerlaw03_alive.f k) true :=
 Ev.of (fun k => footlockerlaw03_alive.mono k) (k := 60) (by decide +kernel)
def Few (M : List (List G)) : Prop := M.length ≤ 20 ∧ ∀ i, i < M.length → (row M i).length ≤ 20
theorem Few.fit {M : List (List G)} (h : Few M) : Fit M := ⟨by have := h.1; omega, fun i hi => by have := h.2 i hi; omega⟩
theorem Few.wid {M : List (List G)} (h : Few M) : wid M ≤ 20 := by
 unfold Al.wid
 by_cases e : 0 < M.length
 ·exact h.2 0 e
 ·rw [row_ge (by omega)]; decide
theorem small_l0 (M : List (List G)) (hM : M.length ≤ 9223372036854775807) (d : Nat) : ∀ n : Nat, n + d = M.length → (∀ i, i < n → (row M i).length ≤ 20) → ∃ b, Ev (fun k => footlockerlaw03_small.l0 k (bss M) (bss M) (M.length : Int) (n : Int)) b ∧ (b = true → Few M) := by
 induction d with
 | zero =>
  intro n hn h
  refine ⟨decide ((M.length : Int) ≤ 20), Ev.step (fun k => footlockerlaw03_small.l0.eq_2 _ _ _ _ _) (Ev.neg (by omega) ?_), fun hb => ⟨by have := of_decide_eq_true hb; omega, fun i hi => h i (by omega)⟩⟩
  rw [bss_length]
  exact Ev.now _
 | succ d ih =>
  intro n hn h
  by_cases e : (row M n).length > 20
  ·refine ⟨false, Ev.step (fun k => footlockerlaw03_small.l0.eq_2 _ _ _ _ _) (Ev.pos (by omega) (Ev.pos (by omega) (Ev.pos (by rw [bss_length]; omega) ?_))), fun hb => by cases hb⟩
   rw [rd_bss]
   exact Ev.pos (by rw [bs_length]; omega) (Ev.now _)
  ·obtain ⟨b, h1, h2⟩ := ih (n + 1) (by omega) (fun i hi => by
    by_cases e2 : i = n
    ·rw [e2]; omega
    ·exact h i (by omega))
   refine ⟨b, Ev.step (fun k => footlockerlaw03_small.l0.eq_2 _ _ _ _ _) (Ev.pos (by omega) (Ev.pos (by omega) (Ev.pos (by rw [bss_length]; omega) ?_))), h2⟩
   have hw : wrap64 ((n : Int) + 1) = ((n + 1 : Nat) : Int) := by rw [Al.wrap_sm (by omega) (by omega)]; omega
   rw [rd_bss, hw]
   exact Ev.neg (by rw [bs_length]; omega) h1
theorem small_ev (M : List (List G)) (hM : M.length ≤ 9223372036854775807) : ∃ b, Ev (fun k => footlockerlaw03_small.f k (bss M)) b ∧ (b = true → Few M) := by
 obtain ⟨b, h1, h2⟩ := small_l0 M hM M.length 0 (Nat.zero_add _) (fun i hi => by omega)
 refine ⟨b, Ev.congr (fun k => footlockerlaw03_small.f.eq_1 _ _) ?_, h2⟩
 rw [bss_length]
 exact h1
theorem len_in {n : Nat} (h : n ≤ maxLen) : n ≤ 9223372036854775807 := by
 unfold maxLen at h
 omega
end Go.Proofs.Ytanknpdibjfmlaa.Al
namespace Go.Proofs.Ytanknpdibjfmlaa.Pure
open Go Go.RowKit Go.Proofs.YtanknpdibjfmlaaW.PrintWords Go.Proofs.YtanknpdibjfmlaaW.PrintMore Go.Proofs.Ytanknpdibjfmlaa.P Go.Proofs.Ytanknpdibjfmlaa.Al
set_option linter.unusedVariables false
set_option linter.unusedSimpArgs false
theorem wid_of {M : List (List G)} {w : Nat} (h : 0 < M.length) (hw : Wd M w) : wid M = w := hw 0 h
theorem Rt_of {M : List (List G)} {w : Nat} (hw : Wd M w) : Rt M := by
 intro i hi
 rw [hw i hi, wid_of (by omega) hw]
def both (x y : List G) (n : Nat) : List G := tab n (fun j => co x j + co y j)
theorem ranks_end (M : List (List G)) (i j : Nat) (hF : Few M) (hr : Rt M) (h0 : 0 < M.length) (hi : i < M.length) (hj : j < M.length) :
 Ev (fun k => footlockerlaw03_LinearRanks.l0 k (bss M) ((reduce M (wid M)).2.length : Int) (bs (row M i)) (bs (row M j)) (bs (both (row M i) (row M j) (wid M))) (wid M : Int) (wid M : Int)) true := by
 have hM := hF.fit
 have h1 := hF.1
 have hw := hF.wid
 have hdl : (M.drop 1).length + 1 = M.length := by rw [List.length_drop]; omega
 have hdw : Wd (M.drop 1) (wid M) := by
  intro k hk
  rw [row_drop]
  exact hr (1 + k) (by omega)
 have hdr := Rt_of hdw
 have hdF : Fit (M.drop 1) := Fit.of (by omega) hdw (by omega)
 have hless := rank_ev (M.drop 1) hdF hdr
 have hlen : (reduce (M.drop 1) (wid (M.drop 1))).2.length = (reduce (M.drop 1) (wid M)).2.length := by
  by_cases e : 0 < (M.drop 1).length
  ·rw [wid_of e hdw]
  ·have a := (reduce_RF (M.drop 1) (wid (M.drop 1))).len
   have b := (reduce_RF (M.drop 1) (wid M)).len
   rw [reduce_length] at a b
   omega
 rw [hlen] at hless
 have hd := rank_drop (M := M) (c := wid M) h0
 have h20 : cols 20 (wid M) = wid M := by unfold cols; omega
 have hRw := reduce_width (wid M) hr
 have hRl := reduce_length M (wid M)
 have hRr := Rt_of hRw
 have hRF : Fit (reduce M (wid M)).1 := Fit.of (by omega) hRw (by omega)
 have hwR : wid (reduce M (wid M)).1 = wid M := wid_of (by omega) hRw
 have e1 := reduce_ev M 20 hM hr
 rw [h20] at e1
 have e2 := reduce_ev (reduce M (wid M)).1 20 hRF hRr
 rw [hwR, h20, reduce_again hr] at e2
 have hsl : (both (row M i) (row M j) (wid M)).length = wid M := tab_length _ _
 have hsw : Wd (M ++ [both (row M i) (row M j) (wid M)]) (wid M) := by
  intro k hk
  rw [row_append]
  by_cases e : k < M.length
  ·rw [if_pos e]; exact hr k e
  ·rw [if_neg e]
   simp at hk
   rw [show k - M.length = 0 by omega]
   exact hsl
 have hsF : Fit (M ++ [both (row M i) (row M j) (wid M)]) := Fit.of (by simp; omega) hsw (by omega)
 have hs := rank_ev _ hsF (Rt_of hsw)
 rw [wid_of (by simp) hsw, rank_snoc (by
  refine ((Sp.row hi).add (Sp.row hj)).congr (fun k => ?_)
  rw [both, co_tab]
  by_cases e : k < wid M
  ·rw [if_pos e]
  ·rw [if_neg e, co_ge (by rw [hr i hi]; omega), co_ge (by rw [hr j hj]; omega), add_zero])] at hs
 have hle := (reduce_RF M (wid M)).len
 rw [reduce_length] at hle
 refine Ev.step (fun k => footlockerlaw03_LinearRanks.l0.eq_2 _ _ _ _ _ _ _ _) (Ev.neg (by omega) (Ev.pos (by rw [bss_length]; omega) ?_))
 rw [bss_drop]
 refine Ev.bind hless (Ev.bind e1 (Ev.bind e2 (Ev.somef (Ev.pos (by rw [bss_length, List.length_nil]; omega) (Ev.somef (Ev.pos (by rw [List.nil_append, bss_length]; omega) ?_))))))
 rw [List.nil_append, bss_snoc]
 refine Ev.bind hs (Ev.pos rfl (Ev.pos (by omega) (Ev.pos ?_ ?_)))
 ·rw [Al.wrap_sm (by omega) (by omega)]
  omega
 ·exact Ev.bind (sameR_ev _ hRF) (Ev.pos rfl (Ev.bind (sameI_ev _ (by rw [psI_length]; omega)) (Ev.now _)))
theorem ranks_l0 (M : List (List G)) (i j : Nat) (hF : Few M) (hr : Rt M) (h0 : 0 < M.length) (hi : i < M.length) (hj : j < M.length) (d : Nat) : ∀ n : Nat, n + d = wid M →
 Ev (fun k => footlockerlaw03_LinearRanks.l0 k (bss M) ((reduce M (wid M)).2.length : Int) (bs (row M i)) (bs (row M j)) (bs (both (row M i) (row M j) n)) (wid M : Int) (n : Int)) true := by
 have hw := hF.wid
 have hri := hr i hi
 have hrj := hr j hj
 induction d with
 | zero =>
  intro n hn
  obtain rfl : n = wid M := by omega
  exact ranks_end M i j hF hr h0 hi hj
 | succ d ih =>
  intro n hn
  refine Ev.step (fun k => footlockerlaw03_LinearRanks.l0.eq_2 _ _ _ _ _ _ _ _) (Ev.pos (by omega) (Ev.pos (by omega) (Ev.pos (by rw [bs_length]; omega) (Ev.pos (by rw [bs_length]; omega) (Ev.pos (by rw [bs_length, both, tab_length]; omega) ?_)))))
  rw [rd_bs, rd_bs, xor_i, wrap_succ (by omega)]
  have e : bs (both (row M i) (row M j) n) ++ [(co (row M i) n + co (row M j) n).i] = bs (both (row M i) (row M j) (n + 1)) := by
   unfold both
   rw [tab_succ, bs_append]
   rfl
  rw [e]
  exact ih (n + 1) (by omega)
theorem ranks_j0 (M : List (List G)) (a b : Int) (hF : Few M) (hr : Rt M) (h0 : 0 < M.length) : Ev (fun k => footlockerlaw03_LinearRanks.j0 k (bss M) a b false) true := by
 have hM := hF.fit
 have h1 := hF.1
 have hRF := reduce_RF M (wid M)
 have hle := hRF.len
 have hle2 := hRF.le
 rw [reduce_length] at hle
 have mod_ : ∀ c : Int, ∃ i : Nat, i < M.length ∧ Int.tmod (Go.bits .and .i64 c 31) (M.length : Int) = (i : Int) := by
  intro c
  obtain ⟨i, _, he⟩ := and_le c 31 (by decide)
  refine ⟨i % M.length, Nat.mod_lt _ h0, ?_⟩
  have e : (31 : Int) = ((31 : Nat) : Int) := rfl
  rw [e, he, Int.tmod_eq_emod_of_nonneg (by omega)]
  norm_cast
 obtain ⟨i, hi, ei⟩ := mod_ a
 obtain ⟨j, hj, ej⟩ := mod_ b
 refine Ev.step (fun k => footlockerlaw03_LinearRanks.j0.eq_2 _ _ _ _ _) (Ev.neg (by simp) (Ev.bind (rank_ev M hM hr) (Ev.neg (by omega) (Ev.neg (by rw [bss_length]; omega) (Ev.pos (by rw [bss_length]; omega) ?_)))))
 rw [rd_bss0, bs_length, decide_eq_false (show ¬ (((reduce M (wid M)).2.length : Int) > ((row M 0).length : Int)) by unfold wid at hle2 ⊢; omega)]
 refine Ev.step (fun k => footlockerlaw03_LinearRanks.j1.eq_2 _ _ _ _ _ _) (Ev.neg (by simp) (Ev.neg (by rw [bss_length]; omega) ?_))
 rw [bss_length, ei, ej, rd_bss, rd_bss, bs_length, hr i hi]
 refine Ev.pos (by omega) (Ev.pos (by omega) (Ev.pos (by omega) (Ev.pos (by omega) ?_)))
 exact ranks_l0 M i j hF hr h0 hi hj (wid M) 0 (Nat.zero_add _)
theorem LinearRanks : footlockerlaw03_LinearRanks.Pure := by
 rintro l0 a c ⟨hl, h0⟩ _ _
 obtain ⟨M, rfl⟩ := rows_in l0 (fun y hy => (h0 y hy).2)
 apply Ev.rounds
 obtain ⟨b, hs, hb⟩ := small_ev M (len_in (by rw [bss_length] at hl; exact hl))
 have big : Ev (fun k => footlockerlaw03_LinearRanks.j0 k (bss M) a c true) true := Ev.step (fun k => footlockerlaw03_LinearRanks.j0.eq_2 _ _ _ _ _) (Ev.pos rfl (Ev.now _))
 refine Ev.congr (fun k => footlockerlaw03_LinearRanks.f.eq_1 _ _ _ _) (Ev.bind alive_ev (Ev.pos rfl (Ev.bind hs ?_)))
 cases b with
 | false => exact Ev.neg (by simp) big
 | true =>
  have hF := hb rfl
  refine Ev.pos rfl (Ev.bind (refright_ev M hF.fit.1) ?_)
  by_cases hr : Rt M
  ·refine Ev.pos (decide_eq_true hr) ?_
   rw [bss_length]
   by_cases h0 : M.length = 0
   ·rw [show ((M.length : Int) == 0) = true by simp [h0]]
    exact big
   ·rw [show ((M.length : Int) == 0) = false by simp; intro h; exact h0 (by rw [h]; rfl)]
    exact ranks_j0 M a c hF hr (by omega)
  ·exact Ev.neg (by simpa using hr) big
end Go.Proofs.Ytanknpdibjfmlaa.Pure
namespace Go.Proofs.Ytanknpdibjfmlaa.Q
open Go Go.RowKit Go.ChangeShapes Go.WideShapes Go.Proofs.YtanknpdibjfmlaaW.PrintWords
set_option linter.unusedVariables false
set_option linter.unusedSimpArgs false
def Opens {H : Type} (enc : TypeId × Value → H) (P : Program) (W : World) (base : Nat) (t : TypeId) {α : Type} (d : Kd α) (wf : α → Prop) : Prop :=
 ∀ (spare : Nat → Bool) (held : Bool) (fuel : Nat) (cs : List Value) (x : DataW H × List MemPlace), DataW.trod enc P W base spare held fuel t cs = some x → ∃ v : α, d.K W v cs ∧ wf v
section
variable {H : Type} {enc : TypeId × Value → H} {P : Program} {W : World} {base : Nat}
theorem opens_int {t : TypeId} {k : IntKind} (ht : P.underlying t = some (.int k)) : Opens enc P W base t (Kd.int k) (fun n => (Lit.int k n).wf = true) := by
 intro spare held fuel cs x h
 obtain ⟨n, rfl, _, hw⟩ := DataW.trod_int ht h
 exact ⟨n, rfl, hw⟩
theorem mapM_get {β γ : Type} {f : β → Option γ} : ∀ {l : List β} {cs : List γ}, l.mapM f = some cs → cs.length = l.length ∧ ∀ (i : Nat) (b : β), l[i]? = some b → f b = cs[i]? := by
 intro l
 induction l with
 | nil =>
  intro cs h
  simp at h
  subst h
  exact ⟨rfl, fun i b hb => by simp at hb⟩
 | cons a l ih =>
  intro cs h
  rw [List.mapM_cons] at h
  cases hf : f a with
  | none => simp [hf] at h
  | some y =>
   cases hm : l.mapM f with
   | none => simp [hf, hm] at h
   | some ys =>
    simp [hf, hm] at h
    subst h
    obtain ⟨h1, h2⟩ := ih hm
    refine ⟨by simp [h1], fun i b hb => ?_⟩
    cases i with
    | zero =>
     simp at hb
     subst hb
     simpa using hf
    | succ i =>
     simp at hb
     simpa using h2 i b hb
theorem cells_of {a : Addr} {n : Nat} {cs : List Value} (h : W.cells? base a n = some cs) : cs.length = n ∧ ∀ (i : Nat) (u : Value), cs[i]? = some u → W.cell? (a.add i) = some u := by
 unfold World.cells? at h
 split at h
 ·obtain ⟨h1, h2⟩ := mapM_get h
  rw [List.length_range] at h1
  refine ⟨h1, fun i u hu => ?_⟩
  have hi : i < n := by
   have := (List.getElem?_eq_some_iff.1 hu).1
   omega
  rw [h2 i i (by rw [List.getElem?_range hi]), hu]
 ·cases h
theorem opens_slice {t e : TypeId} {α : Type} {d : Kd α} {wf : α → Prop} (ht : P.underlying t = some (.slice e)) (hc : P.cellsOf e = d.sz) (hm : maxLen ≤ 9223372036854775807) (ho : Opens enc P W base e d wf) [Inhabited α] :
 Opens enc P W base t (Kd.slice e d) (fun xs => xs.length ≤ maxLen ∧ ∀ x ∈ xs, wf x) := by
 intro spare held fuel cs x h
 rcases Deep.open_slice ht h with ⟨rfl, _⟩ | ⟨a, len, cap, m, n, D, Pl, rfl, hb, hl, hcm, hmm, rfl, hx⟩
 ·exact ⟨[], ⟨none, 0, rfl, Nat.le_refl _, rfl, Nat.zero_le _, fun h => absurd h (by simp)⟩, Nat.zero_le _, fun x hx => by simp at hx⟩
 ·have hlm : len ≤ m := by rw [hmm]; split <;> omega
  obtain ⟨F, hF⟩ := Deep.choose_lt (α := α) (n := len) (p := fun i v => ∃ cs', d.K W v cs' ∧ cs'.length = d.sz ∧ (∀ j u, cs'[j]? = some u → W.cell? (a.add (i * d.sz + j)) = some u) ∧ wf v) (fun i hi => by
   obtain ⟨cs', h1, h2⟩ := hx i (by omega)
   obtain ⟨v, hv, hw⟩ := ho spare held n cs' _ h2
   rw [hc] at h1
   obtain ⟨h3, h4⟩ := cells_of h1
   refine ⟨v, cs', hv, h3, fun j u hu => ?_, hw⟩
   have := h4 j u hu
   rwa [Deep.add_add] at this)
  refine ⟨(List.range len).map F, ⟨some a, cap, by simp, by simpa using hl, by simp, by simp; omega, fun _ => ⟨a, rfl, fun j p hj => ?_⟩⟩, by simp; omega, fun x hx => ?_⟩
  ·have hjl : j < len := by
    have := (List.getElem?_eq_some_iff.1 hj).1
    simpa using this
   rw [List.getElem?_map, List.getElem?_range hjl] at hj
   simp at hj
   subst hj
   obtain ⟨cs', h1, h2, h3, _⟩ := hF j hjl
   exact ⟨cs', h2, h1, h3⟩
  ·rw [List.mem_map] at hx
   obtain ⟨i, hi, rfl⟩ := hx
   obtain ⟨_, _, _, _, hw⟩ := hF i (List.mem_range.1 hi)
   exact hw
theorem slice_arg {e : TypeId} {α : Type} {d : Kd α} {xs : List α} {a : Option Addr} {len cap : Nat} (h : (Kd.slice e d).K W xs (Value.cells (.slice a len cap)).toList) : len = xs.length ∧ xs.length ≤ cap ∧ d.C W a xs.length xs := by
 obtain ⟨A, c, hcs, hl, hC⟩ := h
 simp [Value.cells] at hcs
 obtain ⟨rfl, rfl, rfl⟩ := hcs
 exact ⟨rfl, hl, hC⟩
end
end Go.Proofs.Ytanknpdibjfmlaa.Q
