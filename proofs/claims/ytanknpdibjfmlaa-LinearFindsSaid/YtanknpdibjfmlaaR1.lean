/- Matrices over the field of bytes: what elimination does, what rows sum up to, pivots, solutions. Conditions: as each theorem states them. -/
import Derived.Test.YtanknpdibjfmlaaPA
namespace Go.Proofs.Ytanknpdibjfmlaa.Al
set_option linter.unusedVariables false
set_option linter.unusedSimpArgs false

/-! sums -/
theorem sum_swap (g : Nat → Nat → G) (m n : Nat) : sum (fun j => sum (fun i => g i j) m) n = sum (fun i => sum (fun j => g i j) n) m := by
  induction n with
  | zero => rw [sum_zero, sum_eq_zero]; intro i _; rfl
  | succ n ih =>
    rw [sum_succ, ih, ← sum_add]
    rfl
theorem sum_split (f : Nat → G) (n m : Nat) : sum f (n + m) = sum f n + sum (fun j => f (n + j)) m := by
  induction m with
  | zero => rw [sum_zero, add_zero]; rfl
  | succ m ih =>
    show sum f (n + m + 1) = _
    rw [sum_succ, sum_succ, ih, add_assoc]
theorem sum_mul_right (c : G) (f : Nat → G) (n : Nat) : sum (fun i => f i * c) n = sum f n * c := by
  rw [mul_comm, ← sum_mul]
  apply sum_congr
  intro i _
  rw [mul_comm]

/-! rows -/
def row (M : List (List G)) (i : Nat) : List G := M.getD i []
theorem row_lt {M : List (List G)} {i : Nat} (h : i < M.length) : row M i = M[i] := by
  simp [row, List.getD_eq_getElem?_getD, List.getElem?_eq_getElem h]
theorem row_ge {M : List (List G)} {i : Nat} (h : M.length ≤ i) : row M i = [] := by
  simp [row, List.getD_eq_getElem?_getD, List.getElem?_eq_none h]
theorem row_set (M : List (List G)) (n i : Nat) (r : List G) (h : n < M.length) : row (M.set n r) i = if i = n then r else row M i := by
  simp only [row, List.getD_eq_getElem?_getD, List.getElem?_set]
  by_cases e : n = i
  · subst e
    simp [h]
  · simp [e, Ne.symm e]
theorem row_append (M N : List (List G)) (i : Nat) : row (M ++ N) i = if i < M.length then row M i else row N (i - M.length) := by
  simp only [row, List.getD_eq_getElem?_getD, List.getElem?_append]
  split <;> rfl
theorem row_drop (M : List (List G)) (n i : Nat) : row (M.drop n) i = row M (n + i) := by
  simp only [row, List.getD_eq_getElem?_getD, List.getElem?_drop]
theorem ext_row {M N : List (List G)} (hl : M.length = N.length) (h : ∀ i, i < M.length → row M i = row N i) : M = N := by
  apply List.ext_getElem hl
  intro i h1 h2
  have := h i h1
  rwa [row_lt h1, row_lt h2] at this
def tabR (n : Nat) (f : Nat → List G) : List (List G) := (List.range n).map f
theorem tabR_length (n : Nat) (f : Nat → List G) : (tabR n f).length = n := by simp [tabR]
theorem row_tabR (n : Nat) (f : Nat → List G) (i : Nat) (h : i < n) : row (tabR n f) i = f i := by
  rw [row_lt (by rw [tabR_length]; exact h)]
  simp [tabR]
theorem tabR_succ (n : Nat) (f : Nat → List G) : tabR (n + 1) f = tabR n f ++ [f n] := by simp [tabR, List.range_succ]
theorem tabR_row (M : List (List G)) : tabR M.length (row M) = M :=
  ext_row (tabR_length _ _) (fun i hi => row_tabR _ _ _ (by rwa [tabR_length] at hi))
/-- all rows are so long -/
def Wd (M : List (List G)) (w : Nat) : Prop := ∀ i, i < M.length → (row M i).length = w

/-! what rows sum up to -/
def Sp (M : List (List G)) (v : Nat → G) : Prop := ∃ f : Nat → G, ∀ j, v j = sum (fun i => f i * co (row M i) j) M.length
theorem Sp.zero (M : List (List G)) : Sp M (fun _ => 0) := ⟨fun _ => 0, fun j => by rw [sum_eq_zero]; intro i _; rw [zero_mul]⟩
theorem Sp.congr {M : List (List G)} {v w : Nat → G} (hv : Sp M v) (h : ∀ j, v j = w j) : Sp M w := by
  obtain ⟨f, hf⟩ := hv
  exact ⟨f, fun j => by rw [← h, hf]⟩
theorem Sp.add {M : List (List G)} {v w : Nat → G} (hv : Sp M v) (hw : Sp M w) : Sp M (fun j => v j + w j) := by
  obtain ⟨f, hf⟩ := hv
  obtain ⟨g, hg⟩ := hw
  refine ⟨fun i => f i + g i, fun j => ?_⟩
  dsimp only
  rw [hf, hg, ← sum_add]
  apply sum_congr
  intro i _
  rw [add_mul]
theorem Sp.mul {M : List (List G)} {v : Nat → G} (c : G) (hv : Sp M v) : Sp M (fun j => c * v j) := by
  obtain ⟨f, hf⟩ := hv
  refine ⟨fun i => c * f i, fun j => ?_⟩
  dsimp only
  rw [hf, ← sum_mul]
  apply sum_congr
  intro i _
  rw [mul_assoc]
theorem Sp.row {M : List (List G)} {i : Nat} (h : i < M.length) : Sp M (co (row M i)) := by
  refine ⟨fun k => if k = i then 1 else 0, fun j => ?_⟩
  rw [sum_single (k := i) h]
  · dsimp only
    rw [if_pos rfl, one_mul]
  · intro k _ hk
    dsimp only
    rw [if_neg hk, zero_mul]
theorem Sp.sums {M : List (List G)} (f : Nat → G) (r : Nat → Nat → G) (n : Nat) (h : ∀ i, i < n → Sp M (r i)) : Sp M (fun j => sum (fun i => f i * r i j) n) := by
  induction n with
  | zero => exact Sp.zero M
  | succ n ih => exact ((ih (fun i hi => h i (by omega))).add ((h n (by omega)).mul (f n))).congr (fun j => rfl)
theorem Sp.le {M N : List (List G)} (h : ∀ i, i < N.length → Sp M (co (Al.row N i))) {v : Nat → G} (hv : Sp N v) : Sp M v := by
  obtain ⟨f, hf⟩ := hv
  exact (Sp.sums f (fun i => co (Al.row N i)) N.length h).congr (fun j => (hf j).symm)

/-! products with a row -/
def dt (n : Nat) (v x : Nat → G) : G := sum (fun j => v j * x j) n
theorem dt_congr {n : Nat} {v w x y : Nat → G} (h : ∀ j, j < n → v j = w j) (h2 : ∀ j, j < n → x j = y j) : dt n v x = dt n w y :=
  sum_congr (fun j hj => by rw [h j hj, h2 j hj])
theorem dt_comm (n : Nat) (v x : Nat → G) : dt n v x = dt n x v := sum_congr (fun j _ => mul_comm _ _)
theorem dt_add (n : Nat) (v x y : Nat → G) : dt n v (fun j => x j + y j) = dt n v x + dt n v y := by
  unfold dt
  rw [← sum_add]
  exact sum_congr (fun j _ => mul_add _ _ _)
theorem dt_zero {n : Nat} {v x : Nat → G} (h : ∀ j, j < n → v j = 0 ∨ x j = 0) : dt n v x = 0 :=
  sum_eq_zero (fun j hj => (h j hj).elim (fun e => by rw [e, zero_mul]) (fun e => by rw [e, mul_zero]))
theorem dt_single {n : Nat} {v x : Nat → G} {k : Nat} (hk : k < n) (h : ∀ j, j < n → j ≠ k → v j = 0 ∨ x j = 0) : dt n v x = v k * x k :=
  sum_single hk (fun j hj hne => (h j hj hne).elim (fun e => by rw [e, zero_mul]) (fun e => by rw [e, mul_zero]))
/-- z comes to nought with every row -/
def Ker (M : List (List G)) (n : Nat) (z : Nat → G) : Prop := ∀ i, i < M.length → dt n (co (row M i)) z = 0
theorem Ker.span {M : List (List G)} {n : Nat} {z : Nat → G} (h : Ker M n z) {v : Nat → G} (hv : Sp M v) : dt n v z = 0 := by
  obtain ⟨f, hf⟩ := hv
  have h1 : dt n v z = sum (fun j => sum (fun i => f i * (co (row M i) j * z j)) M.length) n := by
    unfold dt
    apply sum_congr
    intro j _
    rw [hf, ← sum_mul_right]
    apply sum_congr
    intro i _
    rw [mul_assoc]
  rw [h1, sum_swap, sum_eq_zero]
  intro i hi
  rw [sum_mul]
  have := h i hi
  unfold dt at this
  rw [this, mul_zero]
theorem Ker.of_span {M N : List (List G)} (h : ∀ v, Sp N v → Sp M v) {n : Nat} {z : Nat → G} (hk : Ker M n z) : Ker N n z :=
  fun i hi => hk.span (h _ (Sp.row hi))

/-! one step of elimination -/
def swp (M : List (List G)) (a u k : Nat) : List G := if k = a then row M u else if k = u then row M a else row M k
def piv (M : List (List G)) (c u : Nat) : List G := scale (inv (co (row M u) c)) (row M u)
def elim (M : List (List G)) (a c u : Nat) : List (List G) := tabR M.length (fun k => if k = a then piv M c u else zadd (swp M a u k) (scale (co (swp M a u k) c) (piv M c u)))
theorem elim_length (M : List (List G)) (a c u : Nat) : (elim M a c u).length = M.length := tabR_length _ _
theorem row_elim {M : List (List G)} {a c u k : Nat} (h : k < M.length) : row (elim M a c u) k = if k = a then piv M c u else zadd (swp M a u k) (scale (co (swp M a u k) c) (piv M c u)) := row_tabR _ _ _ h
theorem co_piv (M : List (List G)) (c u j : Nat) : co (piv M c u) j = inv (co (row M u) c) * co (row M u) j := co_scale _ _ _
theorem co_elim_at {M : List (List G)} {a c u : Nat} (h : a < M.length) (j : Nat) : co (row (elim M a c u) a) j = co (piv M c u) j := by rw [row_elim h, if_pos rfl]
theorem co_elim {M : List (List G)} {a c u k : Nat} (h : k < M.length) (hk : k ≠ a) (j : Nat) : co (row (elim M a c u) k) j = co (swp M a u k) j + co (swp M a u k) c * co (piv M c u) j := by
  rw [row_elim h, if_neg hk, co_zadd, co_scale]
theorem swp_width {M : List (List G)} {w a u k : Nat} (hw : Wd M w) (ha : a < M.length) (hu : u < M.length) (hk : k < M.length) : (swp M a u k).length = w := by
  unfold swp
  split
  · exact hw u hu
  · split
    · exact hw a ha
    · exact hw k hk
theorem elim_width {M : List (List G)} {w a c u : Nat} (hw : Wd M w) (ha : a < M.length) (hu : u < M.length) : Wd (elim M a c u) w := by
  intro k hk
  rw [elim_length] at hk
  rw [row_elim hk]
  have hp : (piv M c u).length = w := by rw [piv, scale_length]; exact hw u hu
  split
  · exact hp
  · rw [zadd_length, scale_length, hp, swp_width hw ha hu hk]
    omega
theorem swp_span {M : List (List G)} {a u k : Nat} (ha : a < M.length) (hu : u < M.length) (hk : k < M.length) : Sp M (co (swp M a u k)) := by
  unfold swp
  split
  · exact Sp.row hu
  · split
    · exact Sp.row ha
    · exact Sp.row hk
theorem elim_span {M : List (List G)} {a c u : Nat} (ha : a < M.length) (hu : u < M.length) (hp : co (row M u) c ≠ 0) (v : Nat → G) : Sp (elim M a c u) v ↔ Sp M v := by
  have hpiv : Sp M (co (piv M c u)) := ((Sp.row hu).mul (inv (co (row M u) c))).congr (fun j => (co_piv M c u j).symm)
  have ha' : a < (elim M a c u).length := by rw [elim_length]; exact ha
  have hpe : Sp (elim M a c u) (co (piv M c u)) := (Sp.row ha').congr (fun j => co_elim_at ha j)
  have hsw : ∀ k, k < M.length → k ≠ a → Sp (elim M a c u) (co (swp M a u k)) := by
    intro k hk hka
    refine ((Sp.row (M := elim M a c u) (i := k) (by rw [elim_length]; exact hk)).add (hpe.mul (co (swp M a u k) c))).congr (fun j => ?_)
    rw [co_elim hk hka, add_assoc, add_self, add_zero]
  have hru : Sp (elim M a c u) (co (row M u)) := by
    refine (hpe.mul (co (row M u) c)).congr (fun j => ?_)
    rw [co_piv, ← mul_assoc, mul_inv hp, one_mul]
  constructor
  · refine Sp.le (fun k hk => ?_)
    rw [elim_length] at hk
    by_cases hka : k = a
    · rw [hka]
      exact hpiv.congr (fun j => (co_elim_at ha j).symm)
    · exact ((swp_span ha hu hk).add (hpiv.mul (co (swp M a u k) c))).congr (fun j => (co_elim hk hka j).symm)
  · refine Sp.le (fun k hk => ?_)
    by_cases hku : k = u
    · rw [hku]
      exact hru
    · by_cases hka : k = a
      · have h := hsw u hu (fun e => hku (by rw [hka, e]))
        have e : swp M a u u = row M k := by
          unfold swp
          rw [if_neg (fun e => hku (by rw [hka, e])), if_pos rfl, hka]
        rwa [e] at h
      · have h := hsw k hk hka
        have e : swp M a u k = row M k := by
          unfold swp
          rw [if_neg hka, if_neg hku]
        rwa [e] at h

/-! the reduced form -/
structure RF (M : List (List G)) (ps : List Nat) (c : Nat) : Prop where
  len : ps.length ≤ M.length
  lt : ∀ t, t < ps.length → ps.getD t 0 < c
  asc : ∀ s t, s < t → t < ps.length → ps.getD s 0 < ps.getD t 0
  unit : ∀ i t, i < M.length → t < ps.length → co (row M i) (ps.getD t 0) = if i = t then 1 else 0
  low : ∀ i j, ps.length ≤ i → i < M.length → j < c → co (row M i) j = 0
  lead : ∀ t j, t < ps.length → j < ps.getD t 0 → co (row M t) j = 0
theorem RF.start (M : List (List G)) : RF M [] 0 where
  len := Nat.zero_le _
  lt := fun t h => absurd h (Nat.not_lt_zero _)
  asc := fun s t _ h => absurd h (Nat.not_lt_zero _)
  unit := fun i t _ h => absurd h (Nat.not_lt_zero _)
  low := fun i j _ _ h => absurd h (Nat.not_lt_zero _)
  lead := fun t j h => absurd h (Nat.not_lt_zero _)
theorem RF.skip {M : List (List G)} {ps : List Nat} {c : Nat} (h : RF M ps c) (hz : ∀ i, ps.length ≤ i → i < M.length → co (row M i) c = 0) : RF M ps (c + 1) where
  len := h.len
  lt := fun t ht => Nat.lt_succ_of_lt (h.lt t ht)
  asc := h.asc
  unit := h.unit
  low := fun i j hi hi2 hj => by
    by_cases e : j = c
    · rw [e]; exact hz i hi hi2
    · exact h.low i j hi hi2 (by omega)
  lead := h.lead
theorem getD_snoc (ps : List Nat) (c t : Nat) : (ps ++ [c]).getD t 0 = if t < ps.length then ps.getD t 0 else if t = ps.length then c else 0 := by
  simp only [List.getD_eq_getElem?_getD, List.getElem?_append]
  by_cases h : t < ps.length
  · rw [if_pos h, if_pos h]
  · rw [if_neg h, if_neg h]
    by_cases e : t = ps.length
    · rw [if_pos e, e]; simp
    · rw [if_neg e, List.getElem?_eq_none (by simp; omega)]; rfl
theorem RF.step {M : List (List G)} {ps : List Nat} {c u : Nat} (h : RF M ps c) (hu : ps.length ≤ u) (hu2 : u < M.length) (hp : co (row M u) c ≠ 0) : RF (elim M ps.length c u) (ps ++ [c]) (c + 1) := by
  have ha : ps.length < M.length := by omega
  have hpz : ∀ j, j < c → co (piv M c u) j = 0 := fun j hj => by rw [co_piv, h.low u j hu hu2 hj, mul_zero]
  have hpc : co (piv M c u) c = 1 := by rw [co_piv, inv_mul hp]
  have hsl : ∀ k, ps.length < k → k < M.length → ∀ j, j < c → co (swp M ps.length u k) j = 0 := by
    intro k hk hk2 j hj
    unfold swp
    rw [if_neg (by omega)]
    split
    · exact h.low _ j (Nat.le_refl _) ha hj
    · exact h.low _ j (by omega) hk2 hj
  have hsk : ∀ k, k < ps.length → swp M ps.length u k = row M k := by
    intro k hk
    unfold swp
    rw [if_neg (by omega), if_neg (by omega)]
  have hcol : ∀ i, i < M.length → co (row (elim M ps.length c u) i) c = if i = ps.length then 1 else 0 := by
    intro i hi
    by_cases e : i = ps.length
    · rw [if_pos e, e, co_elim_at ha, hpc]
    · rw [if_neg e, co_elim hi e, hpc, mul_one, add_self]
  have hbel : ∀ i j, i < M.length → j < c → co (row (elim M ps.length c u) i) j = if i < ps.length then co (row M i) j else 0 := by
    intro i j hi hj
    by_cases e : i = ps.length
    · rw [e, co_elim_at ha, hpz j hj, if_neg (Nat.lt_irrefl _)]
    · rw [co_elim hi e, hpz j hj, mul_zero, add_zero]
      by_cases hlt : i < ps.length
      · rw [if_pos hlt, hsk i hlt]
      · rw [if_neg hlt, hsl i (by omega) hi j hj]
  have hget : ∀ t, t < ps.length → (ps ++ [c]).getD t 0 = ps.getD t 0 := fun t ht => by rw [getD_snoc, if_pos ht]
  have hend : (ps ++ [c]).getD ps.length 0 = c := by rw [getD_snoc, if_neg (Nat.lt_irrefl _), if_pos rfl]
  have hl : (ps ++ [c]).length = ps.length + 1 := by simp
  constructor
  · rw [hl, elim_length]; omega
  · intro t ht
    rw [hl] at ht
    by_cases e : t = ps.length
    · rw [e, hend]; omega
    · rw [hget t (by omega)]
      have := h.lt t (by omega)
      omega
  · intro s t hst ht
    rw [hl] at ht
    rw [hget s (by omega)]
    by_cases e : t = ps.length
    · rw [e, hend]
      exact h.lt s (by omega)
    · rw [hget t (by omega)]
      exact h.asc s t hst (by omega)
  · intro i t hi ht
    rw [hl] at ht
    rw [elim_length] at hi
    by_cases e : t = ps.length
    · rw [e, hend, hcol i hi]
    · rw [hget t (by omega), hbel i _ hi (h.lt t (by omega))]
      by_cases hlt : i < ps.length
      · rw [if_pos hlt, h.unit i t hi (by omega)]
      · rw [if_neg hlt, if_neg (by omega)]
  · intro i j hi hi2 hj
    rw [hl] at hi
    rw [elim_length] at hi2
    by_cases e : j = c
    · rw [e, hcol i hi2, if_neg (by omega)]
    · rw [hbel i j hi2 (by omega), if_neg (by omega)]
  · intro t j ht hj
    rw [hl] at ht
    by_cases e : t = ps.length
    · rw [e, hend] at hj
      rw [e, hbel _ j ha hj, if_neg (Nat.lt_irrefl _)]
    · rw [hget t (by omega)] at hj
      have := h.lt t (by omega)
      rw [hbel t j (by omega) (by omega), if_pos (by omega)]
      exact h.lead t j (by omega) hj

/-! reducing -/
def fnd (M : List (List G)) (a c : Nat) : Nat := a + (M.drop a).findIdx (fun r => decide (co r c ≠ 0))
theorem fnd_le (M : List (List G)) (a c : Nat) : a ≤ fnd M a c := Nat.le_add_right _ _
theorem fnd_at {M : List (List G)} {a c : Nat} (h : fnd M a c < M.length) : co (row M (fnd M a c)) c ≠ 0 := by
  have hlt : (M.drop a).findIdx (fun r => decide (co r c ≠ 0)) < (M.drop a).length := by
    rw [List.length_drop]
    unfold fnd at h
    omega
  have h2 := List.findIdx_getElem (w := hlt)
  rw [← row_lt hlt, row_drop] at h2
  exact of_decide_eq_true h2
theorem fnd_before {M : List (List G)} {a c i : Nat} (ha : a ≤ i) (hi : i < fnd M a c) : co (row M i) c = 0 := by
  have hlt : i - a < (M.drop a).findIdx (fun r => decide (co r c ≠ 0)) := by
    unfold fnd at hi
    omega
  have hle := List.findIdx_le_length (p := fun r => decide (co r c ≠ 0)) (xs := M.drop a)
  have h2 := List.not_of_lt_findIdx hlt
  rw [← row_lt, row_drop, show a + (i - a) = i by omega] at h2
  simpa using h2
def red : Nat → List (List G) → List Nat → Nat → List (List G) × List Nat
  | 0, M, ps, _ => (M, ps)
  | d + 1, M, ps, c => if fnd M ps.length c < M.length then red d (elim M ps.length c (fnd M ps.length c)) (ps ++ [c]) (c + 1) else red d M ps (c + 1)
theorem red_facts (d : Nat) : ∀ (M : List (List G)) (ps : List Nat) (c : Nat), RF M ps c →
    RF (red d M ps c).1 (red d M ps c).2 (c + d) ∧ (red d M ps c).1.length = M.length ∧ (∀ w, Wd M w → Wd (red d M ps c).1 w) ∧ ∀ v, Sp (red d M ps c).1 v ↔ Sp M v := by
  induction d with
  | zero => exact fun M ps c h => ⟨h, rfl, fun w hw => hw, fun v => Iff.rfl⟩
  | succ d ih =>
    intro M ps c h
    unfold red
    by_cases hf : fnd M ps.length c < M.length
    · rw [if_pos hf]
      have hp := fnd_at hf
      have hle := fnd_le M ps.length c
      obtain ⟨h1, h2, h3, h4⟩ := ih _ _ _ (h.step hle hf hp)
      refine ⟨by rw [show c + (d + 1) = c + 1 + d by omega]; exact h1, by rw [h2, elim_length], fun w hw => h3 w (elim_width hw (by omega) hf), fun v => (h4 v).trans (elim_span (by omega) hf hp v)⟩
    · rw [if_neg hf]
      obtain ⟨h1, h2, h3, h4⟩ := ih _ _ _ (h.skip (fun i hi hi2 => fnd_before hi (by omega)))
      exact ⟨by rw [show c + (d + 1) = c + 1 + d by omega]; exact h1, h2, h3, h4⟩
def reduce (M : List (List G)) (n : Nat) : List (List G) × List Nat := red n M [] 0
theorem reduce_RF (M : List (List G)) (n : Nat) : RF (reduce M n).1 (reduce M n).2 n := by
  have := (red_facts n M [] 0 (RF.start M)).1
  rwa [Nat.zero_add] at this
theorem reduce_length (M : List (List G)) (n : Nat) : (reduce M n).1.length = M.length := (red_facts n M [] 0 (RF.start M)).2.1
theorem reduce_width {M : List (List G)} {w : Nat} (n : Nat) (h : Wd M w) : Wd (reduce M n).1 w := (red_facts n M [] 0 (RF.start M)).2.2.1 w h
theorem reduce_span (M : List (List G)) (n : Nat) (v : Nat → G) : Sp (reduce M n).1 v ↔ Sp M v := (red_facts n M [] 0 (RF.start M)).2.2.2 v

/-! what the reduced form tells -/
theorem RF.coords {R : List (List G)} {ps : List Nat} {c : Nat} (h : RF R ps c) {v : Nat → G} (hv : Sp R v) {j : Nat} (hj : j < c) :
    v j = sum (fun t => v (ps.getD t 0) * co (row R t) j) ps.length := by
  obtain ⟨f, hf⟩ := hv
  have h1 : ∀ t, t < ps.length → v (ps.getD t 0) = f t := by
    intro t ht
    have hl := h.len
    rw [hf, sum_single (k := t) (by omega)]
    · rw [h.unit t t (by omega) ht, if_pos rfl, mul_one]
    · intro i hi hne
      rw [h.unit i t hi ht, if_neg hne, mul_zero]
  rw [hf, sum_extend h.len (fun i h1 h2 => by rw [h.low i j h1 h2 hj, mul_zero])]
  apply sum_congr
  intro t ht
  rw [h1 t ht]
/-- some sum of rows begins at j -/
def Ld (M : List (List G)) (j : Nat) : Prop := ∃ v, Sp M v ∧ (∀ i, i < j → v i = 0) ∧ v j ≠ 0
theorem RF.mem {R : List (List G)} {ps : List Nat} {c : Nat} (h : RF R ps c) {j : Nat} (hj : j < c) : Ld R j ↔ ∃ t, t < ps.length ∧ ps.getD t 0 = j := by
  constructor
  · rintro ⟨v, hv, hz, hne⟩
    apply Classical.byContradiction
    intro hno
    apply hne
    rw [h.coords hv hj]
    apply sum_eq_zero
    intro t ht
    rcases Nat.lt_trichotomy (ps.getD t 0) j with e | e | e
    · rw [hz _ e, zero_mul]
    · exact absurd ⟨t, ht, e⟩ hno
    · rw [h.lead t j ht e, mul_zero]
  · rintro ⟨t, ht, rfl⟩
    have hl := h.len
    refine ⟨co (row R t), Sp.row (by omega), fun i hi => h.lead t i ht hi, ?_⟩
    rw [h.unit t t (by omega) ht, if_pos rfl]
    exact one_ne_zero
theorem asc_eq {ps qs : List Nat} (hp : ∀ s t, s < t → t < ps.length → ps.getD s 0 < ps.getD t 0) (hq : ∀ s t, s < t → t < qs.length → qs.getD s 0 < qs.getD t 0)
    (h : ∀ j, (∃ t, t < ps.length ∧ ps.getD t 0 = j) ↔ ∃ t, t < qs.length ∧ qs.getD t 0 = j) : ps = qs := by
  have key : ∀ (as bs : List Nat), (∀ s t, s < t → t < as.length → as.getD s 0 < as.getD t 0) → (∀ s t, s < t → t < bs.length → bs.getD s 0 < bs.getD t 0) →
      (∀ j, (∃ t, t < as.length ∧ as.getD t 0 = j) ↔ ∃ t, t < bs.length ∧ bs.getD t 0 = j) → ∀ t, t < as.length → (∀ s, s < t → as.getD s 0 = bs.getD s 0) → t < bs.length ∧ bs.getD t 0 ≤ as.getD t 0 := by
    intro as bs ha hb hab t ht hs
    obtain ⟨s, h1, h2⟩ := (hab (as.getD t 0)).1 ⟨t, ht, rfl⟩
    rcases Nat.lt_trichotomy s t with e | e | e
    · have h3 := ha s t e ht
      have h4 := hs s e
      omega
    · rw [← e]
      exact ⟨h1, by rw [h2, e]; exact Nat.le_refl _⟩
    · have := hb t s e h1
      exact ⟨by omega, by omega⟩
  have all : ∀ t, (t < ps.length ↔ t < qs.length) ∧ (t < ps.length → ps.getD t 0 = qs.getD t 0) := by
    intro t
    induction t using Nat.strongRecOn with
    | _ t ih =>
      have hpq : t < ps.length → t < qs.length ∧ qs.getD t 0 ≤ ps.getD t 0 := fun ht => key ps qs hp hq h t ht (fun s hs => (ih s hs).2 (by omega))
      have hqp : t < qs.length → t < ps.length ∧ ps.getD t 0 ≤ qs.getD t 0 := fun ht => key qs ps hq hp (fun j => (h j).symm) t ht (fun s hs => ((ih s hs).2 ((ih s hs).1.2 (by omega))).symm)
      refine ⟨⟨fun ht => (hpq ht).1, fun ht => (hqp ht).1⟩, fun ht => ?_⟩
      have h1 := hpq ht
      have h2 := hqp h1.1
      omega
  have hl : ps.length = qs.length := by
    rcases Nat.lt_trichotomy ps.length qs.length with e | e | e
    · have := (all ps.length).1.2 e
      omega
    · exact e
    · have := (all qs.length).1.1 e
      omega
  apply List.ext_getElem hl
  intro i h1 h2
  have := (all i).2 h1
  simpa [List.getD_eq_getElem?_getD, List.getElem?_eq_getElem h1, List.getElem?_eq_getElem h2] using this
theorem pivots_eq {R S : List (List G)} {ps qs : List Nat} {c : Nat} (h1 : RF R ps c) (h2 : RF S qs c) (h : ∀ j, j < c → (Ld R j ↔ Ld S j)) : ps = qs := by
  apply asc_eq h1.asc h2.asc
  intro j
  constructor
  · rintro ⟨t, ht, rfl⟩
    have hj := h1.lt t ht
    exact (h2.mem hj).1 ((h _ hj).1 ((h1.mem hj).2 ⟨t, ht, rfl⟩))
  · rintro ⟨t, ht, rfl⟩
    have hj := h2.lt t ht
    exact (h1.mem hj).1 ((h _ hj).2 ((h2.mem hj).2 ⟨t, ht, rfl⟩))
theorem Ld.of {M N : List (List G)} (h : ∀ v, Sp M v → Sp N v) {j : Nat} (hl : Ld M j) : Ld N j := by
  obtain ⟨v, h1, h2⟩ := hl
  exact ⟨v, h v h1, h2⟩
theorem asc_ge {ps : List Nat} (hp : ∀ s t, s < t → t < ps.length → ps.getD s 0 < ps.getD t 0) : ∀ t, t < ps.length → t ≤ ps.getD t 0 := by
  intro t
  induction t with
  | zero => intro _; exact Nat.zero_le _
  | succ t ih =>
    intro ht
    have h1 := ih (by omega)
    have h2 := hp t (t + 1) (by omega) ht
    omega
theorem RF.le {R : List (List G)} {ps : List Nat} {c : Nat} (h : RF R ps c) : ps.length ≤ c := by
  rcases Nat.eq_zero_or_pos ps.length with e | e
  · omega
  · have h1 := asc_ge h.asc (ps.length - 1) (by omega)
    have h2 := h.lt (ps.length - 1) (by omega)
    omega
/-- as many pivots as columns: each column is one -/
theorem RF.full {R : List (List G)} {ps : List Nat} {c : Nat} (h : RF R ps c) (hl : ps.length = c) : ∀ t, t < c → ps.getD t 0 = t := by
  have hge := asc_ge h.asc
  have hup : ∀ d t, t + d + 1 = c → ps.getD t 0 ≤ t := by
    intro d
    induction d with
    | zero =>
      intro t ht
      have := h.lt t (by omega)
      omega
    | succ d ih =>
      intro t ht
      have h1 := ih (t + 1) (by omega)
      have h2 := h.asc t (t + 1) (by omega) (by omega)
      omega
  intro t ht
  have h1 := hge t (by omega)
  have h2 := hup (c - t - 1) t (by omega)
  omega
/-- Two reduced forms of the same sums are the same. -/
theorem RF.unique {R S : List (List G)} {ps qs : List Nat} {c : Nat} (h1 : RF R ps c) (h2 : RF S qs c) (hs : ∀ v, Sp R v ↔ Sp S v) (hw : Wd R c) (hw2 : Wd S c) (hl : R.length = S.length) : R = S ∧ ps = qs := by
  have hp : ps = qs := pivots_eq h1 h2 (fun j _ => ⟨Ld.of (fun v => (hs v).1), Ld.of (fun v => (hs v).2)⟩)
  subst hp
  refine ⟨ext_row hl (fun i hi => ?_), rfl⟩
  apply ext_co
  · rw [hw i hi, hw2 i (by omega)]
  · intro j hj
    rw [hw i hi] at hj
    by_cases hi2 : i < ps.length
    · rw [h2.coords ((hs _).1 (Sp.row hi)) hj, sum_single (k := i) hi2]
      · rw [h1.unit i i hi hi2, if_pos rfl, one_mul]
      · intro t ht hne
        rw [h1.unit i t hi ht, if_neg (fun e => hne e.symm), zero_mul]
    · rw [h1.low i j (by omega) hi hj, h2.low i j (by omega) (by omega) hj]
end Go.Proofs.Ytanknpdibjfmlaa.Al
