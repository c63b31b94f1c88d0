/- What numbers are called: the program's tables and its binary search, and the document's loops, by one characterization. Conditions: as each theorem states them. -/
import Derived.Test.YtabaodikcgaliaaDoorPx
import Derived.Test.YtabaodikcgaliaaDoorPx1
import Derived.Test.YtabaodikcgaliaaDoorPx2
import Derived.Test.YtabaodikcgaliaaDoorPx3
namespace Go.Proofs.YtabaodikcgaliaaDoor.Sy
open Go Go.RowKit Go.Proofs.YtabaodikcgaliaaDoorW.PrintWords Go.Proofs.YtabaodikcgaliaaDoorW.PrintMore Go.Proofs.YtabaodikcgaliaaDoor.P
set_option linter.unusedVariables false
set_option linter.unusedSimpArgs false

theorem Ev.pos {α : Type} {c : Prop} [Decidable c] {A B : Nat → Option α} {r : α} (h : c) (hA : Ev A r) : Ev (fun k => if c then A k else B k) r := by
  simp only [if_pos h]; exact hA
theorem Ev.neg {α : Type} {c : Prop} [Decidable c] {A B : Nat → Option α} {r : α} (h : ¬ c) (hB : Ev B r) : Ev (fun k => if c then A k else B k) r := by
  simp only [if_neg h]; exact hB
theorem evc {α : Type} {g : Nat → Option α} {r r' : α} (h : Ev g r) (e : r = r') : Ev g r' := e ▸ h
theorem Ev.somef {α β : Type} {f : Nat → α → Option β} {a : α} {r : β} (h : Ev (fun k => f k a) r) : Ev (fun k => (some a).bind (f k)) r := h
theorem Ev.const {α : Type} {o : Option α} {r : α} (h : o = some r) : Ev (fun _ => o) r := by rw [h]; exact Ev.now r
theorem wrap_sm {x : Int} (h0 : -9223372036854775808 ≤ x) (h1 : x ≤ 9223372036854775807) : wrap64 x = x := by unfold wrap64; omega
theorem wf_i64 {x : Int} (h : (Lit.int .i64 x).wf = true) : -9223372036854775808 ≤ x ∧ x ≤ 9223372036854775807 := by
  simp [Lit.wf, IntKind.min, IntKind.max, IntKind.bits, IntKind.signed] at h
  omega
theorem and_le (x : Int) (m : Nat) (hm : m < 1000000) : ∃ c : Nat, c ≤ m ∧ Go.bits .and .i64 x (m : Int) = (c : Int) := by
  have hmm : (BitVec.ofInt 64 (m : Int)).toNat = m := by
    rw [BitVec.ofInt_natCast, BitVec.toNat_ofNat]
    omega
  have h : (BitVec.ofInt 64 x &&& BitVec.ofInt 64 (m : Int)).toNat ≤ m := by
    rw [BitVec.toNat_and, hmm]
    exact Nat.and_le_right
  refine ⟨(BitVec.ofInt 64 x &&& BitVec.ofInt 64 (m : Int)).toNat, h, ?_⟩
  show IntKind.i64.wrap _ = _
  rw [IntKind.wrap_i64]
  show (((BitVec.ofInt 64 x &&& BitVec.ofInt 64 (m : Int)).toNat : Int) + _) % _ - _ = _
  omega

theorem mid {lo hi : Nat} (h : lo + hi < 1000000) : wrap64 ((IntKind.u64.wrap (wrap64 ((lo : Int) + (hi : Int)))) / 2) = (((lo + hi) / 2 : Nat) : Int) := by
  rw [wrap_sm (x := (lo : Int) + hi) (by omega) (by omega), IntWalk.u64_in _ (by omega), wrap_sm (by omega) (by omega)]
  omega
theorem less_ev (a b : Int) : cmp_Less_int.f a b = some (decide (a < b)) := by
  simp [cmp_Less_int.f, cmp_isNaN_int.f]
/-- The binary search: its place is the first that is no less. -/
theorem bs_l0 (l : List Int) (x : Int) (hl : l.length < 100000) (hs : ∀ i j : Nat, i < j → j < l.length → rd l (i : Int) < rd l (j : Int)) (p : Nat) (hp : p ≤ l.length)
    (hlo : ∀ j : Nat, j < p → rd l (j : Int) < x) (hhi : ∀ j : Nat, p ≤ j → j < l.length → x ≤ rd l (j : Int)) :
    ∀ (d lo hi : Nat), hi - lo ≤ d → lo ≤ p → p ≤ hi → hi ≤ l.length → Ev (fun k => slices_BinarySearch_int_int.l0 k l x (l.length : Int) (lo : Int) (hi : Int)) ((p : Int), decide (p < l.length ∧ rd l (p : Int) = x)) := by
  intro d
  induction d with
  | zero =>
    intro lo hi hd h1 h2 h3
    obtain rfl : lo = p := by omega
    obtain rfl : hi = lo := by omega
    refine Ev.step (fun k => slices_BinarySearch_int_int.l0.eq_2 _ _ _ _ _ _) (Ev.neg (by omega) ?_)
    by_cases hq : hi < l.length
    · refine Ev.pos (by omega) (Ev.pos (by omega) (Ev.pos (by omega) ?_))
      by_cases he : rd l (hi : Int) = x
      · refine Ev.pos he ?_
        rw [decide_eq_true ⟨hq, he⟩]
        exact Ev.now _
      · refine Ev.neg he ?_
        rw [decide_eq_false (fun h => he h.2)]
        simp only [slices_isNaN_int.f, bne_self_eq_false, Option.bind_some]
        exact Ev.neg (by decide) (Ev.now _)
    · refine Ev.neg (by omega) ?_
      rw [decide_eq_false (fun h => hq h.1)]
      exact Ev.now _
  | succ d ih =>
    intro lo hi hd h1 h2 h3
    by_cases he : lo = hi
    · exact ih lo hi (by omega) h1 h2 h3
    · refine Ev.step (fun k => slices_BinarySearch_int_int.l0.eq_2 _ _ _ _ _ _) (Ev.pos (by omega) ?_)
      rw [mid (by omega)]
      refine Ev.pos (by omega) (Ev.pos (by omega) ?_)
      rw [less_ev]
      refine Ev.somef ?_
      by_cases hc : rd l (((lo + hi) / 2 : Nat) : Int) < x
      · refine Ev.pos (decide_eq_true hc) ?_
        rw [wrap_sm (x := (((lo + hi) / 2 : Nat) : Int) + 1) (by omega) (by omega)]
        have e : ((((lo + hi) / 2 : Nat) : Int) + 1) = (((lo + hi) / 2 + 1 : Nat) : Int) := by omega
        rw [e]
        refine ih _ _ (by omega) ?_ h2 h3
        apply Nat.le_of_not_lt
        intro hlt
        have := hhi ((lo + hi) / 2) (by omega) (by omega)
        omega
      · refine Ev.neg (by simpa using hc) ?_
        refine ih _ _ (by omega) h1 ?_ (by omega)
        apply Nat.le_of_not_lt
        intro hlt
        exact hc (hlo _ hlt)
theorem bs_ev (l : List Int) (x : Int) (hl : l.length < 100000) (hs : ∀ i j : Nat, i < j → j < l.length → rd l (i : Int) < rd l (j : Int)) (p : Nat) (hp : p ≤ l.length)
    (hlo : ∀ j : Nat, j < p → rd l (j : Int) < x) (hhi : ∀ j : Nat, p ≤ j → j < l.length → x ≤ rd l (j : Int)) :
    Ev (fun k => slices_BinarySearch_int_int.f k l x) ((p : Int), decide (p < l.length ∧ rd l (p : Int) = x)) :=
  bs_l0 l x hl hs p hp hlo hhi l.length 0 l.length (by omega) (by omega) hp (by omega)
theorem find_ev (l : List Int) (x : Int) (hl : l.length < 100000) (hs : ∀ i j : Nat, i < j → j < l.length → rd l (i : Int) < rd l (j : Int)) (t : Nat) (ht : t < l.length)
    (h0 : rd l (t : Int) ≤ x) (h1 : ∀ j : Nat, t < j → j < l.length → x < rd l (j : Int)) : Ev (fun k => symbol_find.f k l x) (t : Int) := by
  refine Ev.congr (fun k => symbol_find.f.eq_1 _ _ _) ?_
  by_cases he : rd l (t : Int) = x
  · refine Ev.bind (bs_ev l x hl hs t (by omega) (fun j hj => by have := hs j t hj ht; omega) (fun j hj hj' => ?_)) ?_
    · by_cases e : j = t
      · subst e; omega
      · have := h1 j (by omega) hj'; omega
    · refine Ev.pos (decide_eq_true ⟨ht, he⟩) (Ev.now _)
  · refine Ev.bind (bs_ev l x hl hs (t + 1) (by omega) (fun j hj => ?_) (fun j hj hj' => ?_)) ?_
    · by_cases e : j = t
      · subst e; omega
      · have := hs j t (by omega) ht; omega
    · have := h1 j (by omega) hj'; omega
    · refine Ev.neg ?_ ?_
      · simp only [decide_eq_true_eq]
        rintro ⟨ha, hb⟩
        have := h1 (t + 1) (by omega) ha
        omega
      · show Ev (fun _ => some (wrap64 (((t + 1 : Nat) : Int) - 1))) _
        rw [wrap_sm (by omega) (by omega)]
        exact evc (Ev.now _) (by omega)

/-! the tables -/
theorem d_len : symDist.length = 30 := by decide
theorem l_len : symLen.length = 29 := by decide
theorem d_sorted : ∀ i j : Nat, i < j → j < symDist.length → rd symDist (i : Int) < rd symDist (j : Int) := by
  have h : ∀ j : Fin 30, ∀ i : Fin 30, i.val < j.val → rd symDist (i.val : Int) < rd symDist (j.val : Int) := by decide +kernel
  intro i j hij hj
  rw [d_len] at hj
  exact h ⟨j, hj⟩ ⟨i, by omega⟩ hij
theorem l_sorted : ∀ i j : Nat, i < j → j < symLen.length → rd symLen (i : Int) < rd symLen (j : Int) := by
  have h : ∀ j : Fin 29, ∀ i : Fin 29, i.val < j.val → rd symLen (i.val : Int) < rd symLen (j.val : Int) := by decide +kernel
  intro i j hij hj
  rw [l_len] at hj
  exact h ⟨j, hj⟩ ⟨i, by omega⟩ hij
/-- The place of a number: no base behind it is as small. -/
structure At (l : List Int) (x : Int) (t : Nat) : Prop where
  lt : t < l.length
  le : rd l (t : Int) ≤ x
  behind : ∀ j : Nat, t < j → j < l.length → x < rd l (j : Int)
theorem at_ex {l : List Int} {x : Int} (h0 : 0 < l.length) (h : rd l 0 ≤ x) (hs : ∀ i j : Nat, i < j → j < l.length → rd l (i : Int) < rd l (j : Int)) : ∃ t, At l x t := by
  have key : ∀ m : Nat, m < l.length → (∀ j : Nat, m < j → j < l.length → x < rd l (j : Int)) → ∃ t, At l x t := by
    intro m
    induction m with
    | zero => intro hm hb; exact ⟨0, hm, h, hb⟩
    | succ m ih =>
      intro hm hb
      by_cases hc : rd l ((m + 1 : Nat) : Int) ≤ x
      · exact ⟨m + 1, hm, hc, hb⟩
      · refine ih (by omega) (fun j hj hj' => ?_)
        by_cases e : j = m + 1
        · subst e; omega
        · exact hb j (by omega) hj'
  exact key (l.length - 1) (by omega) (fun j hj hj' => by omega)
theorem d_at {t : Nat} {x : Int} (h : At symDist x t) : Ev (fun k => symbol_find.f k symDist x) (t : Int) := find_ev _ x (by decide) d_sorted t h.lt h.le h.behind
theorem l_at {t : Nat} {x : Int} (h : At symLen x t) : Ev (fun k => symbol_find.f k symLen x) (t : Int) := find_ev _ x (by decide) l_sorted t h.lt h.le h.behind
theorem d_rng : ∀ t : Nat, t < 30 → 1 ≤ rd symDist (t : Int) ∧ rd symDist (t : Int) ≤ 24577 := by
  have h : ∀ j : Fin 30, 1 ≤ rd symDist (j.val : Int) ∧ rd symDist (j.val : Int) ≤ 24577 := by decide +kernel
  exact fun t ht => h ⟨t, ht⟩
theorem l_rng : ∀ t : Nat, t < 29 → 3 ≤ rd symLen (t : Int) ∧ rd symLen (t : Int) ≤ 258 := by
  have h : ∀ j : Fin 29, 3 ≤ rd symLen (j.val : Int) ∧ rd symLen (j.val : Int) ≤ 258 := by decide +kernel
  exact fun t ht => h ⟨t, ht⟩
theorem dist_ev {n : Int} {t : Nat} (h0 : 1 ≤ n) (h1 : n ≤ 32768) (h : At symDist n t) : Ev (fun k => symbol_Dist.f k n) ((t : Int), rd symDistBits (t : Int), n - rd symDist (t : Int)) := by
  have ht := h.lt
  rw [d_len] at ht
  have hr := d_rng t ht
  refine Ev.congr (fun k => symbol_Dist.f.eq_1 _ _) (Ev.neg (by omega) (Ev.neg (by omega) (Ev.bind (d_at h) (Ev.pos (by omega) (Ev.pos (by omega) ?_)))))
  rw [wrap_sm (by omega) (by omega)]
  exact Ev.now _
theorem dist_out {n : Int} (h : n < 1 ∨ 32768 < n) : Ev (fun k => symbol_Dist.f k n) (0, 0, 0) := by
  refine Ev.congr (fun k => symbol_Dist.f.eq_1 _ _) ?_
  by_cases c : n < 1
  · exact Ev.pos c (Ev.now _)
  · exact Ev.neg c (Ev.pos (by omega) (Ev.now _))
theorem length_ev {n : Int} {t : Nat} (h0 : 3 ≤ n) (h1 : n ≤ 258) (h : At symLen n t) : Ev (fun k => symbol_Length.f k n) (257 + (t : Int), rd symLenBits (t : Int), n - rd symLen (t : Int)) := by
  have ht := h.lt
  rw [l_len] at ht
  have hr := l_rng t ht
  refine Ev.congr (fun k => symbol_Length.f.eq_1 _ _) (Ev.neg (by omega) (Ev.neg (by omega) (Ev.bind (l_at h) (Ev.pos (by omega) (Ev.pos (by omega) ?_)))))
  rw [wrap_sm (by omega) (by omega)]
  exact Ev.now _
theorem length_out {n : Int} (h : n < 3 ∨ 258 < n) : Ev (fun k => symbol_Length.f k n) (0, 0, 0) := by
  refine Ev.congr (fun k => symbol_Length.f.eq_1 _ _) ?_
  by_cases c : n < 3
  · exact Ev.pos c (Ev.now _)
  · exact Ev.neg c (Ev.pos (by omega) (Ev.now _))
theorem d_ex {n : Int} (h0 : 1 ≤ n) : ∃ t, At symDist n t := at_ex (by decide) (by show (1 : Int) ≤ n; exact h0) d_sorted
theorem l_ex {n : Int} (h0 : 3 ≤ n) : ∃ t, At symLen n t := at_ex (by decide) (by show (3 : Int) ≤ n; exact h0) l_sorted

/-! the document's bases, code by code -/
theorem ref_db_all : ∀ c : Fin 30, footlockerref11_DistBase.f 60 (c.val : Int) = some (rd symDist (c.val : Int), rd symDistBits (c.val : Int), true) := by decide +kernel
theorem ref_lb_all : ∀ c : Fin 29, footlockerref11_LengthBase.f 60 (257 + (c.val : Int)) = some (rd symLen (c.val : Int), rd symLenBits (c.val : Int), true) := by decide +kernel
theorem ref_db (c : Nat) (h : c < 30) : Ev (fun k => footlockerref11_DistBase.f k (c : Int)) (rd symDist (c : Int), rd symDistBits (c : Int), true) :=
  Ev.of (fun k => footlockerref11_DistBase.mono _ k) (k := 60) (ref_db_all ⟨c, h⟩)
theorem ref_lb (c : Nat) (h : c < 29) : Ev (fun k => footlockerref11_LengthBase.f k (257 + (c : Int))) (rd symLen (c : Int), rd symLenBits (c : Int), true) :=
  Ev.of (fun k => footlockerref11_LengthBase.mono _ k) (k := 60) (ref_lb_all ⟨c, h⟩)
theorem ref_db_out {c : Int} (h : c < 0 ∨ 29 < c) : Ev (fun k => footlockerref11_DistBase.f k c) (0, 0, false) := by
  refine Ev.congr (fun k => footlockerref11_DistBase.f.eq_1 _ _) ?_
  by_cases e : c < 0
  · exact Ev.pos e (Ev.step (fun k => footlockerref11_DistBase.j0.eq_2 _ _ _) (Ev.pos rfl (Ev.now _)))
  · refine Ev.neg e ?_
    rw [decide_eq_true (show c > 29 by omega)]
    exact Ev.step (fun k => footlockerref11_DistBase.j0.eq_2 _ _ _) (Ev.pos rfl (Ev.now _))
theorem ref_lb_out {c : Int} (h : c < 257 ∨ 285 < c) : Ev (fun k => footlockerref11_LengthBase.f k c) (0, 0, false) := by
  refine Ev.congr (fun k => footlockerref11_LengthBase.f.eq_1 _ _) ?_
  by_cases e : c < 257
  · exact Ev.pos e (Ev.step (fun k => footlockerref11_LengthBase.j0.eq_2 _ _ _) (Ev.pos rfl (Ev.now _)))
  · refine Ev.neg e ?_
    rw [decide_eq_true (show c > 285 by omega)]
    exact Ev.step (fun k => footlockerref11_LengthBase.j0.eq_2 _ _ _) (Ev.pos rfl (Ev.now _))
theorem db_ev (c : Nat) (h : c < 30) : symbol_DistBase.f (c : Int) = some (rd symDist (c : Int), rd symDistBits (c : Int), true) := by
  unfold symbol_DistBase.f
  rw [if_neg (by omega), if_neg (by omega)]
theorem lb_ev (c : Nat) (h : c < 29) : symbol_LengthBase.f (257 + (c : Int)) = some (rd symLen (c : Int), rd symLenBits (c : Int), true) := by
  unfold symbol_LengthBase.f
  rw [if_neg (by omega), if_neg (by omega), show 257 + (c : Int) - 257 = (c : Int) by omega]
theorem db_out {c : Int} (h : c < 0 ∨ 29 < c) : symbol_DistBase.f c = some (0, 0, false) := by
  unfold symbol_DistBase.f
  by_cases e : c < 0
  · rw [if_pos e]
  · rw [if_neg e, if_pos (by omega)]
theorem lb_out {c : Int} (h : c < 257 ∨ 285 < c) : symbol_LengthBase.f c = some (0, 0, false) := by
  unfold symbol_LengthBase.f
  by_cases e : c < 257
  · rw [if_pos e]
  · rw [if_neg e, if_pos (by omega)]
theorem ref_dist_l0 {n : Int} {t : Nat} (h0 : 1 ≤ n) (h1 : n ≤ 32768) (h : At symDist n t) : ∀ d : Nat, t + d < 30 → Ev (fun k => footlockerref11_Dist.l0 k n ((t + d : Nat) : Int)) ((t : Int), rd symDistBits (t : Int), n - rd symDist (t : Int)) := by
  have ht := h.lt
  rw [d_len] at ht
  have hr := d_rng t ht
  intro d
  induction d with
  | zero =>
    intro _
    refine Ev.step (fun k => footlockerref11_Dist.l0.eq_2 _ _ _) ?_
    by_cases e : t = 0
    · subst e
      refine Ev.neg (by decide) ?_
      have h3 := h.behind 1 (by omega) (by rw [d_len]; omega)
      have h4 : rd symDist ((1 : Nat) : Int) = 2 := by decide
      have h5 : rd symDist ((0 : Nat) : Int) = 1 := by decide
      refine evc (Ev.now _) ?_
      rw [h5, show n - 1 = 0 by omega]
      rfl
    · refine Ev.pos (by omega) (Ev.bind (ref_db t ht) (Ev.pos h.le ?_))
      show Ev (fun _ => some (((t + 0 : Nat) : Int), rd symDistBits (t : Int), wrap64 (n - rd symDist (t : Int)))) _
      rw [wrap_sm (by omega) (by omega)]
      exact Ev.now _
  | succ d ih =>
    intro hd
    refine Ev.step (fun k => footlockerref11_Dist.l0.eq_2 _ _ _) (Ev.pos (by omega) (Ev.bind (ref_db (t + (d + 1)) hd) ?_))
    have hb := h.behind (t + (d + 1)) (by omega) (by rw [d_len]; exact hd)
    refine Ev.neg (by show ¬ n ≥ rd symDist ((t + (d + 1) : Nat) : Int); omega) ?_
    rw [wrap_sm (by omega) (by omega), show ((t + (d + 1) : Nat) : Int) - 1 = ((t + d : Nat) : Int) by omega]
    exact ih (by omega)
theorem ref_dist {n : Int} {t : Nat} (h0 : 1 ≤ n) (h1 : n ≤ 32768) (h : At symDist n t) : Ev (fun k => footlockerref11_Dist.f k n) ((t : Int), rd symDistBits (t : Int), n - rd symDist (t : Int)) := by
  have ht := h.lt
  rw [d_len] at ht
  refine Ev.congr (fun k => footlockerref11_Dist.f.eq_1 _ _) (Ev.neg (by omega) ?_)
  rw [decide_eq_false (show ¬ n > 32768 by omega)]
  refine Ev.step (fun k => footlockerref11_Dist.j0.eq_2 _ _ _) (Ev.neg (by decide) ?_)
  have := ref_dist_l0 h0 h1 h (29 - t) (by omega)
  rwa [show ((t + (29 - t) : Nat) : Int) = 29 by omega] at this
theorem ref_dist_out {n : Int} (h : n < 1 ∨ 32768 < n) : Ev (fun k => footlockerref11_Dist.f k n) (0, 0, 0) := by
  refine Ev.congr (fun k => footlockerref11_Dist.f.eq_1 _ _) ?_
  by_cases e : n < 1
  · exact Ev.pos e (Ev.step (fun k => footlockerref11_Dist.j0.eq_2 _ _ _) (Ev.pos rfl (Ev.now _)))
  · refine Ev.neg e ?_
    rw [decide_eq_true (show n > 32768 by omega)]
    exact Ev.step (fun k => footlockerref11_Dist.j0.eq_2 _ _ _) (Ev.pos rfl (Ev.now _))
theorem ref_length_l0 {n : Int} {t : Nat} (h0 : 3 ≤ n) (h1 : n < 258) (h : At symLen n t) : ∀ d : Nat, t + d < 29 → Ev (fun k => footlockerref11_Length.l0 k n (257 + ((t + d : Nat) : Int))) (257 + (t : Int), rd symLenBits (t : Int), n - rd symLen (t : Int)) := by
  have ht := h.lt
  rw [l_len] at ht
  have hr := l_rng t ht
  intro d
  induction d with
  | zero =>
    intro _
    refine Ev.step (fun k => footlockerref11_Length.l0.eq_2 _ _ _) (Ev.pos h1 (Ev.step (fun k => footlockerref11_Length.j2.eq_2 _ _ _ _) (Ev.pos rfl (Ev.bind (ref_lb t ht) (Ev.pos h.le ?_)))))
    show Ev (fun _ => some (257 + ((t + 0 : Nat) : Int), rd symLenBits (t : Int), wrap64 (n - rd symLen (t : Int)))) _
    rw [wrap_sm (by omega) (by omega)]
    exact Ev.now _
  | succ d ih =>
    intro hd
    refine Ev.step (fun k => footlockerref11_Length.l0.eq_2 _ _ _) (Ev.pos h1 (Ev.step (fun k => footlockerref11_Length.j2.eq_2 _ _ _ _) (Ev.pos rfl (Ev.bind (ref_lb (t + (d + 1)) hd) ?_))))
    have hb := h.behind (t + (d + 1)) (by omega) (by rw [l_len]; exact hd)
    refine Ev.neg (by show ¬ n ≥ rd symLen ((t + (d + 1) : Nat) : Int); omega) ?_
    rw [wrap_sm (by omega) (by omega), show 257 + ((t + (d + 1) : Nat) : Int) - 1 = 257 + ((t + d : Nat) : Int) by omega]
    exact ih (by omega)
theorem ref_length {n : Int} {t : Nat} (h0 : 3 ≤ n) (h1 : n ≤ 258) (h : At symLen n t) : Ev (fun k => footlockerref11_Length.f k n) (257 + (t : Int), rd symLenBits (t : Int), n - rd symLen (t : Int)) := by
  have ht := h.lt
  rw [l_len] at ht
  refine Ev.congr (fun k => footlockerref11_Length.f.eq_1 _ _) (Ev.neg (by omega) ?_)
  rw [decide_eq_false (show ¬ n > 258 by omega)]
  refine Ev.step (fun k => footlockerref11_Length.j0.eq_2 _ _ _) (Ev.neg (by decide) ?_)
  by_cases e : n = 258
  · subst e
    have h28 : rd symLen ((28 : Nat) : Int) = 258 := by decide
    obtain rfl : t = 28 := by
      by_cases c : t < 28
      · have := h.behind 28 c (by rw [l_len]; omega)
        omega
      · omega
    refine Ev.step (fun k => footlockerref11_Length.l0.eq_2 _ _ _) (Ev.neg (by decide) (Ev.step (fun k => footlockerref11_Length.j2.eq_2 _ _ _ _) (Ev.neg (by decide) (evc (Ev.now _) (by decide)))))
  · have := ref_length_l0 h0 (by omega) h (28 - t) (by omega)
    rwa [show 257 + ((t + (28 - t) : Nat) : Int) = 285 by omega] at this
theorem ref_length_out {n : Int} (h : n < 3 ∨ 258 < n) : Ev (fun k => footlockerref11_Length.f k n) (0, 0, 0) := by
  refine Ev.congr (fun k => footlockerref11_Length.f.eq_1 _ _) ?_
  by_cases e : n < 3
  · exact Ev.pos e (Ev.step (fun k => footlockerref11_Length.j0.eq_2 _ _ _) (Ev.pos rfl (Ev.now _)))
  · refine Ev.neg e ?_
    rw [decide_eq_true (show n > 258 by omega)]
    exact Ev.step (fun k => footlockerref11_Length.j0.eq_2 _ _ _) (Ev.pos rfl (Ev.now _))
/-- Program and document: the same of all numbers. -/
theorem dist_both (n : Int) : ∃ r, Ev (fun k => symbol_Dist.f k n) r ∧ Ev (fun k => footlockerref11_Dist.f k n) r := by
  by_cases h : n < 1 ∨ 32768 < n
  · exact ⟨_, dist_out h, ref_dist_out h⟩
  · obtain ⟨t, ht⟩ := d_ex (n := n) (by omega)
    exact ⟨_, dist_ev (by omega) (by omega) ht, ref_dist (by omega) (by omega) ht⟩
theorem length_both (n : Int) : ∃ r, Ev (fun k => symbol_Length.f k n) r ∧ Ev (fun k => footlockerref11_Length.f k n) r := by
  by_cases h : n < 3 ∨ 258 < n
  · exact ⟨_, length_out h, ref_length_out h⟩
  · obtain ⟨t, ht⟩ := l_ex (n := n) (by omega)
    exact ⟨_, length_ev (by omega) (by omega) ht, ref_length (by omega) (by omega) ht⟩
theorem db_both (c : Int) : ∃ r, symbol_DistBase.f c = some r ∧ Ev (fun k => footlockerref11_DistBase.f k c) r := by
  by_cases h : c < 0 ∨ 29 < c
  · exact ⟨_, db_out h, ref_db_out h⟩
  · obtain ⟨m, rfl⟩ : ∃ m : Nat, c = m := ⟨c.toNat, by omega⟩
    exact ⟨_, db_ev m (by omega), ref_db m (by omega)⟩
theorem lb_both (c : Int) : ∃ r, symbol_LengthBase.f c = some r ∧ Ev (fun k => footlockerref11_LengthBase.f k c) r := by
  by_cases h : c < 257 ∨ 285 < c
  · exact ⟨_, lb_out h, ref_lb_out h⟩
  · obtain ⟨m, rfl⟩ : ∃ m : Nat, c = 257 + (m : Int) := ⟨(c - 257).toNat, by omega⟩
    exact ⟨_, lb_ev m (by omega), ref_lb m (by omega)⟩
end Go.Proofs.YtabaodikcgaliaaDoor.Sy
