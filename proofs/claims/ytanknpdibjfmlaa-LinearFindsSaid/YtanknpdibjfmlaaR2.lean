/- Equations over the field of bytes: what solves them, inverses, ranks. Conditions: as each theorem states them. -/
import Derived.Test.YtanknpdibjfmlaaR1
namespace Go.Proofs.Ytanknpdibjfmlaa.Al
set_option linter.unusedVariables false
set_option linter.unusedSimpArgs false

/-! products of rows and a column -/
def tms (M : List (List G)) (x : List G) : List G := tab M.length (fun i => dt (min (row M i).length x.length) (co (row M i)) (co x))
theorem tms_length (M : List (List G)) (x : List G) : (tms M x).length = M.length := tab_length _ _
theorem co_tms {M : List (List G)} {x : List G} {w i : Nat} (hw : Wd M w) (hx : x.length = w) (hi : i < M.length) : co (tms M x) i = dt w (co (row M i)) (co x) := by
  rw [tms, co_tab, if_pos hi, hw i hi, hx, Nat.min_self]
theorem tms_iff {M : List (List G)} {x b : List G} {w : Nat} (hw : Wd M w) (hx : x.length = w) (hb : b.length = M.length) : tms M x = b ↔ ∀ i, i < M.length → dt w (co (row M i)) (co x) = co b i := by
  constructor
  · rintro rfl i hi
    rw [co_tms hw hx hi]
  · intro h
    apply ext_co
    · rw [tms_length, hb]
    · intro i hi
      rw [tms_length] at hi
      rw [co_tms hw hx hi, h i hi]

/-! a column more -/
def aug (M : List (List G)) (b : List G) : List (List G) := tabR M.length (fun i => row M i ++ [co b i])
theorem aug_length (M : List (List G)) (b : List G) : (aug M b).length = M.length := tabR_length _ _
theorem row_aug {M : List (List G)} {b : List G} {i : Nat} (h : i < M.length) : row (aug M b) i = row M i ++ [co b i] := row_tabR _ _ _ h
theorem aug_width {M : List (List G)} {b : List G} {n : Nat} (hw : Wd M n) : Wd (aug M b) (n + 1) := by
  intro i hi
  rw [aug_length] at hi
  rw [row_aug hi, List.length_append, hw i hi]
  rfl
theorem co_aug {M : List (List G)} {b : List G} {n i : Nat} (hw : Wd M n) (h : i < M.length) (j : Nat) : co (row (aug M b) i) j = if j < n then co (row M i) j else if j = n then co b i else 0 := by
  rw [row_aug h, co_append, hw i h]
  by_cases hj : j < n
  · rw [if_pos hj, if_pos hj]
  · rw [if_neg hj, if_neg hj]
    by_cases e : j = n
    · rw [if_pos e, e, Nat.sub_self]; rfl
    · rw [if_neg e, co_ge (by simp; omega)]
def one (n : Nat) (x : Nat → G) (j : Nat) : G := if j < n then x j else 1
theorem dt_one (n : Nat) (v x : Nat → G) : dt (n + 1) v (one n x) = dt n v x + v n := by
  have : dt (n + 1) v (one n x) = dt n v (one n x) + v n * one n x n := rfl
  have h2 : dt n v (one n x) = dt n v x := dt_congr (fun _ _ => rfl) (fun j hj => if_pos hj)
  rw [this, h2]
  unfold one
  rw [if_neg (Nat.lt_irrefl _), mul_one]
def Sol (M : List (List G)) (n : Nat) (x : Nat → G) : Prop := ∀ i, i < M.length → dt n (co (row M i)) x = co (row M i) n
theorem sol_ker {M : List (List G)} {n : Nat} {x : Nat → G} : Sol M n x ↔ Ker M (n + 1) (one n x) := by
  constructor
  · intro h i hi
    rw [dt_one, h i hi, add_self]
  · intro h i hi
    have := h i hi
    rw [dt_one] at this
    exact add_eq_zero.1 this
theorem sol_span {M N : List (List G)} (h : ∀ v, Sp N v ↔ Sp M v) {n : Nat} {x : Nat → G} : Sol N n x ↔ Sol M n x := by
  rw [sol_ker, sol_ker]
  exact ⟨Ker.of_span (fun v => (h v).2), Ker.of_span (fun v => (h v).1)⟩
theorem sol_aug {M : List (List G)} {b : List G} {n : Nat} (hw : Wd M n) {x : Nat → G} : Sol (aug M b) n x ↔ ∀ i, i < M.length → dt n (co (row M i)) x = co b i := by
  have key : ∀ i, i < M.length → (dt n (co (row (aug M b) i)) x = co (row (aug M b) i) n ↔ dt n (co (row M i)) x = co b i) := by
    intro i hi
    rw [co_aug hw hi, if_neg (Nat.lt_irrefl _), if_pos rfl, dt_congr (w := co (row M i)) (y := x) (fun j hj => by rw [co_aug hw hi, if_pos hj]) (fun _ _ => rfl)]
  constructor
  · intro h i hi
    exact (key i hi).1 (h i (by rw [aug_length]; exact hi))
  · intro h i hi
    rw [aug_length] at hi
    exact (key i hi).2 (h i hi)
/-- what is told of a reduced matrix -/
def outp (R : List (List G)) (ps : List Nat) (n : Nat) : Nat → List G
  | 0 => List.replicate n 0
  | k + 1 => (outp R ps n k).set (ps.getD k 0) (co (row R k) n)
theorem outp_length (R : List (List G)) (ps : List Nat) (n k : Nat) : (outp R ps n k).length = n := by
  induction k with
  | zero => exact List.length_replicate
  | succ k ih => rw [outp, List.length_set, ih]
theorem dt_set {n p : Nat} {v : Nat → G} {x : List G} {c : G} (hp : p < n) (hl : p < x.length) (h0 : co x p = 0) : dt n v (co (x.set p c)) = dt n v (co x) + v p * c := by
  have h1 : dt n v (co (x.set p c)) = sum (fun j => v j * co x j + if j = p then v p * c else 0) n := by
    unfold dt
    apply sum_congr
    intro j _
    rw [co_set _ _ _ _ hl]
    by_cases e : j = p
    · rw [if_pos e, if_pos e, e, h0, mul_zero, zero_add]
    · rw [if_neg e, if_neg e, add_zero]
  rw [h1, sum_add]
  congr 1
  rw [sum_single (k := p) hp (fun i _ hne => if_neg hne), if_pos rfl]
theorem outp_zero {R : List (List G)} {ps : List Nat} {n : Nat} (h : RF R ps n) (k : Nat) (hk : k ≤ ps.length) : ∀ j, (∀ s, s < k → ps.getD s 0 ≠ j) → co (outp R ps n k) j = 0 := by
  induction k with
  | zero => intro j _; exact co_replicate n j
  | succ k ih =>
    intro j hj
    rw [outp, co_set _ _ _ _ (by rw [outp_length]; exact h.lt k (by omega)), if_neg (fun e => hj k (by omega) e.symm)]
    exact ih (by omega) j (fun s hs => hj s (by omega))
theorem outp_dt {R : List (List G)} {ps : List Nat} {n : Nat} (h : RF R ps n) (k : Nat) (hk : k ≤ ps.length) {i : Nat} (hi : i < R.length) : dt n (co (row R i)) (co (outp R ps n k)) = if i < k then co (row R i) n else 0 := by
  induction k with
  | zero =>
    rw [if_neg (Nat.not_lt_zero _)]
    exact dt_zero (fun j _ => .inr (co_replicate n j))
  | succ k ih =>
    have hlt := h.lt k (by omega)
    rw [outp, dt_set hlt (by rw [outp_length]; exact hlt) (outp_zero h k (by omega) _ (fun s hs => Nat.ne_of_lt (h.asc s k hs (by omega)))), ih (by omega), h.unit i k hi (by omega)]
    by_cases e : i = k
    · rw [if_neg (by omega), if_pos e, if_pos (by omega), one_mul, zero_add, e]
    · rw [if_neg e, zero_mul, add_zero]
      by_cases h2 : i < k
      · rw [if_pos h2, if_pos (by omega)]
      · rw [if_neg h2, if_neg (by omega)]
def okS (R : List (List G)) (ps : List Nat) (n : Nat) : Prop := ∀ i, ps.length ≤ i → i < R.length → co (row R i) n = 0
theorem okS_sol {R : List (List G)} {ps : List Nat} {n : Nat} (h : RF R ps n) (hok : okS R ps n) : Sol R n (co (outp R ps n ps.length)) := by
  intro i hi
  rw [outp_dt h _ (Nat.le_refl _) hi]
  by_cases e : i < ps.length
  · rw [if_pos e]
  · rw [if_neg e, hok i (by omega) hi]
theorem sol_okS {R : List (List G)} {ps : List Nat} {n : Nat} (h : RF R ps n) {x : Nat → G} (hx : Sol R n x) : okS R ps n := by
  intro i hi hi2
  rw [← hx i hi2]
  exact dt_zero (fun j hj => .inl (h.low i j hi hi2 hj))
/-- the matrix with a right side, reduced -/
def sv (M : List (List G)) (b : List G) (n : Nat) : List (List G) × List Nat := reduce (aug M b) n
def svx (M : List (List G)) (b : List G) (n : Nat) : List G := outp (sv M b n).1 (sv M b n).2 n (sv M b n).2.length
theorem svx_length (M : List (List G)) (b : List G) (n : Nat) : (svx M b n).length = n := outp_length _ _ _ _
theorem sv_length (M : List (List G)) (b : List G) (n : Nat) : (sv M b n).1.length = M.length := by rw [sv, reduce_length, aug_length]
theorem sv_ok {M : List (List G)} {b : List G} {n : Nat} (hw : Wd M n) (hb : b.length = M.length) (h : okS (sv M b n).1 (sv M b n).2 n) : tms M (svx M b n) = b := by
  rw [tms_iff hw (svx_length _ _ _) hb]
  exact (sol_aug hw).1 ((sol_span (reduce_span _ _)).1 (okS_sol (reduce_RF _ _) h))
theorem sv_of {M : List (List G)} {b x : List G} {n : Nat} (hw : Wd M n) (hx : x.length = n) (hb : b.length = M.length) (h : tms M x = b) : okS (sv M b n).1 (sv M b n).2 n := by
  refine sol_okS (reduce_RF _ _) (x := co x) ((sol_span (reduce_span _ _)).2 ((sol_aug hw).2 ?_))
  exact (tms_iff hw hx hb).1 h

/-! beside the unit matrix -/
def unitv (n i : Nat) : List G := (List.replicate n 0).set i 1
theorem unitv_length (n i : Nat) : (unitv n i).length = n := by rw [unitv, List.length_set, List.length_replicate]
theorem co_unitv {n i : Nat} (h : i < n) (j : Nat) : co (unitv n i) j = if j = i then 1 else 0 := by
  rw [unitv, co_set _ _ _ _ (by rw [List.length_replicate]; exact h), co_replicate]
theorem dt_unitv {n i : Nat} (h : i < n) (v : Nat → G) : dt n v (co (unitv n i)) = v i := by
  rw [dt_single h (fun j _ hne => .inr (by rw [co_unitv h, if_neg hne])), co_unitv h, if_pos rfl, mul_one]
def augI (M : List (List G)) (n : Nat) : List (List G) := tabR M.length (fun i => row M i ++ unitv n i)
theorem augI_length (M : List (List G)) (n : Nat) : (augI M n).length = M.length := tabR_length _ _
theorem row_augI {M : List (List G)} {n i : Nat} (h : i < M.length) : row (augI M n) i = row M i ++ unitv n i := row_tabR _ _ _ h
theorem augI_width {M : List (List G)} {n : Nat} (hw : Wd M n) : Wd (augI M n) (n + n) := by
  intro i hi
  rw [augI_length] at hi
  rw [row_augI hi, List.length_append, hw i hi, unitv_length]
def two (n : Nat) (x y : Nat → G) (j : Nat) : G := if j < n then x j else y (j - n)
theorem dt_two (n : Nat) (v x y : Nat → G) : dt (n + n) v (two n x y) = dt n v x + dt n (fun j => v (n + j)) y := by
  unfold dt
  rw [sum_split]
  congr 1
  · apply sum_congr
    intro j hj
    unfold two
    rw [if_pos hj]
  · apply sum_congr
    intro j hj
    unfold two
    rw [if_neg (by omega), show n + j - n = j by omega]
theorem ker_augI {M : List (List G)} {n : Nat} (hw : Wd M n) (hn : M.length = n) {x y : Nat → G} : Ker (augI M n) (n + n) (two n x y) ↔ ∀ i, i < n → dt n (co (row M i)) x = y i := by
  have key : ∀ i, i < n → dt (n + n) (co (row (augI M n) i)) (two n x y) = dt n (co (row M i)) x + y i := by
    intro i hi
    rw [dt_two, row_augI (by omega)]
    congr 1
    · exact dt_congr (fun j hj => by rw [co_append, hw i (by omega), if_pos hj]) (fun _ _ => rfl)
    · rw [dt_congr (w := co (unitv n i)) (y := y) (fun j hj => by rw [co_append, hw i (by omega), if_neg (by omega), show n + j - n = j by omega]) (fun _ _ => rfl), dt_comm, dt_unitv hi]
  constructor
  · intro h i hi
    have := h i (by rw [augI_length]; omega)
    rw [key i hi] at this
    exact add_eq_zero.1 this
  · intro h i hi
    rw [augI_length, hn] at hi
    rw [key i hi, h i hi, add_self]
/-- the matrix beside the unit matrix, reduced -/
def iv (M : List (List G)) (n : Nat) : List (List G) × List Nat := reduce (augI M n) n
def ivB (M : List (List G)) (n : Nat) : List (List G) := tabR (iv M n).1.length (fun i => (row (iv M n).1 i).drop n)
theorem iv_length (M : List (List G)) (n : Nat) : (iv M n).1.length = M.length := by rw [iv, reduce_length, augI_length]
theorem ivB_length (M : List (List G)) (n : Nat) : (ivB M n).length = M.length := by rw [ivB, tabR_length, iv_length]
theorem row_ivB {M : List (List G)} {n i : Nat} (h : i < M.length) : row (ivB M n) i = (row (iv M n).1 i).drop n := row_tabR _ _ _ (by rw [iv_length]; exact h)
theorem ivB_width {M : List (List G)} {n : Nat} (hw : Wd M n) : Wd (ivB M n) n := by
  intro i hi
  rw [ivB_length] at hi
  have := reduce_width n (augI_width hw) i (by rw [reduce_length, augI_length]; exact hi)
  rw [row_ivB hi, List.length_drop, iv, this]
  omega
theorem ker_iv {M : List (List G)} {n : Nat} (hn : M.length = n) (hf : (iv M n).2.length = n) {x y : Nat → G} : Ker (iv M n).1 (n + n) (two n x y) ↔ ∀ i, i < n → dt n (co (row (ivB M n) i)) y = x i := by
  have hR := reduce_RF (augI M n) n
  have hfull := hR.full hf
  have key : ∀ i, i < n → dt (n + n) (co (row (iv M n).1 i)) (two n x y) = x i + dt n (co (row (ivB M n) i)) y := by
    intro i hi
    rw [dt_two]
    congr 1
    · have hu : ∀ j, j < n → co (row (iv M n).1 i) j = if i = j then 1 else 0 := by
        intro j hj
        have := hR.unit i j (by rw [reduce_length, augI_length]; omega) (by have : (reduce (augI M n) n).2.length = n := hf; omega)
        rwa [hfull j hj] at this
      rw [dt_single hi (fun j hj hne => .inl (by rw [hu j hj, if_neg (fun e => hne e.symm)])), hu i hi, if_pos rfl, one_mul]
    · exact dt_congr (fun j hj => by rw [row_ivB (by omega), co_drop]) (fun _ _ => rfl)
  constructor
  · intro h i hi
    have := h i (by rw [iv_length]; omega)
    rw [key i hi] at this
    exact (add_eq_zero.1 this).symm
  · intro h i hi
    rw [iv_length, hn] at hi
    rw [key i hi, h i hi, add_self]
theorem iv_iff {M : List (List G)} {n : Nat} (hw : Wd M n) (hn : M.length = n) (hf : (iv M n).2.length = n) {x y : Nat → G} :
    (∀ i, i < n → dt n (co (row M i)) x = y i) ↔ ∀ i, i < n → dt n (co (row (ivB M n) i)) y = x i := by
  rw [← ker_augI hw hn, ← ker_iv hn hf]
  exact ⟨Ker.of_span (fun v => (reduce_span _ _ v).1), Ker.of_span (fun v => (reduce_span _ _ v).2)⟩
theorem inv_right {M : List (List G)} {n : Nat} (hw : Wd M n) (hn : M.length = n) (hf : (iv M n).2.length = n) {e : List G} (he : e.length = n) : tms M (tms (ivB M n) e) = e := by
  have hl : (tms (ivB M n) e).length = n := by rw [tms_length, ivB_length, hn]
  rw [tms_iff hw hl (by omega), hn]
  exact (iv_iff hw hn hf).2 (fun i hi => (co_tms (ivB_width hw) he (by rw [ivB_length]; omega)).symm)
theorem inv_left {M : List (List G)} {n : Nat} (hw : Wd M n) (hn : M.length = n) (hf : (iv M n).2.length = n) {e : List G} (he : e.length = n) : tms (ivB M n) (tms M e) = e := by
  have hl : (tms M e).length = n := by rw [tms_length, hn]
  rw [tms_iff (ivB_width hw) hl (by rw [ivB_length]; omega), ivB_length, hn]
  exact (iv_iff hw hn hf).1 (fun i hi => (co_tms hw he (by omega)).symm)
theorem Ld_congr {M N : List (List G)} {n : Nat} (hl : M.length = N.length) (h : ∀ i, i < M.length → ∀ j, j < n → co (row M i) j = co (row N i) j) {j : Nat} (hj : j < n) (hd : Ld M j) : Ld N j := by
  obtain ⟨v, ⟨f, hf⟩, hz, hne⟩ := hd
  have e : ∀ i, i < n → v i = sum (fun k => f k * co (row N k) i) N.length := by
    intro i hi
    rw [hf, ← hl]
    apply sum_congr
    intro k hk
    rw [h k hk i hi]
  exact ⟨fun i => sum (fun k => f k * co (row N k) i) N.length, ⟨f, fun _ => rfl⟩, fun i hi => by dsimp only; rw [← e i (by omega), hz i hi], by dsimp only; rw [← e j hj]; exact hne⟩
theorem Ld_augI {M : List (List G)} {n : Nat} (hw : Wd M n) {j : Nat} (hj : j < n) : Ld (augI M n) j ↔ Ld M j := by
  have key : ∀ i, i < M.length → ∀ j, j < n → co (row M i) j = co (row (augI M n) i) j := fun i hi j hj => by rw [row_augI hi, co_append, hw i hi, if_pos hj]
  exact ⟨Ld_congr (n := n) (augI_length _ _) (fun i hi j hj => (key i (by rwa [augI_length] at hi) j hj).symm) hj, Ld_congr (n := n) (augI_length _ _).symm key hj⟩
/-- as many pivots with the unit matrix beside as without -/
theorem iv_pivots {M : List (List G)} {n : Nat} (hw : Wd M n) : (iv M n).2 = (reduce M n).2 :=
  pivots_eq (reduce_RF (augI M n) n) (reduce_RF M n) (fun j hj =>
    ⟨fun h => Ld.of (fun v => (reduce_span _ _ v).2) ((Ld_augI hw hj).1 (Ld.of (fun v => (reduce_span _ _ v).1) h)),
     fun h => Ld.of (fun v => (reduce_span _ _ v).2) ((Ld_augI hw hj).2 (Ld.of (fun v => (reduce_span _ _ v).1) h))⟩)
theorem inv_full {M : List (List G)} {n : Nat} (hw : Wd M n) (hn : M.length = n) (hf : (iv M n).2.length = n) : (iv (ivB M n) n).2.length = n := by
  have hR := reduce_RF (augI M n) n
  have hB : (ivB M n).length = n := by rw [ivB_length, hn]
  have hld : ∀ j, j < n → Ld (ivB M n) j := by
    intro j hj
    refine ⟨fun i => sum (fun k => co (row M j) k * co (row (ivB M n) k) i) (ivB M n).length, ⟨fun k => co (row M j) k, fun _ => rfl⟩, ?_⟩
    have e : ∀ i, i < n → sum (fun k => co (row M j) k * co (row (ivB M n) k) i) (ivB M n).length = if j = i then 1 else 0 := by
      intro i hi
      have h1 := (iv_iff hw hn hf (x := fun k => co (row (ivB M n) k) i) (y := co (unitv n i))).2 (fun k hk => dt_unitv hi _) j hj
      rw [hB]
      unfold dt at h1
      rw [h1, co_unitv hi]
    exact ⟨fun i hi => by dsimp only; rw [e i (by omega), if_neg (by omega)], by dsimp only; rw [e j hj, if_pos rfl]; exact one_ne_zero⟩
  have hp : (iv (ivB M n) n).2 = (iv M n).2 := by
    refine pivots_eq (reduce_RF (augI (ivB M n) n) n) hR (fun j hj => ?_)
    refine ⟨fun _ => (hR.mem hj).2 ⟨j, by have : (reduce (augI M n) n).2.length = n := hf; omega, hR.full hf j hj⟩, fun _ => Ld.of (fun v => (reduce_span _ _ v).2) ((Ld_augI (ivB_width hw) hj).2 (hld j hj))⟩
  rw [hp, hf]
theorem inv_inv {M : List (List G)} {n : Nat} (hw : Wd M n) (hn : M.length = n) (hf : (iv M n).2.length = n) : ivB (ivB M n) n = M := by
  have hB : (ivB M n).length = n := by rw [ivB_length, hn]
  have hf2 := inv_full hw hn hf
  apply ext_row
  · rw [ivB_length, hB, hn]
  · intro i hi
    rw [ivB_length, hB] at hi
    apply ext_co
    · rw [ivB_width (ivB_width hw) i (by rw [ivB_length, hB]; exact hi), hw i (by omega)]
    · intro j hj
      rw [ivB_width (ivB_width hw) i (by rw [ivB_length, hB]; exact hi)] at hj
      have h1 := (iv_iff hw hn hf (x := co (unitv n j)) (y := fun i => co (row M i) j)).1 (fun k hk => dt_unitv hj _)
      have h2 := (iv_iff (ivB_width hw) hB hf2).1 h1 i hi
      rw [dt_unitv hj] at h2
      exact h2

/-! ranks -/
theorem asc_nodup {ps : List Nat} (hp : ∀ s t, s < t → t < ps.length → ps.getD s 0 < ps.getD t 0) : ps.Nodup := by
  rw [List.Nodup, List.pairwise_iff_getElem]
  intro i j hi hj hij
  have := hp i j hij hj
  simp only [List.getD_eq_getElem?_getD, List.getElem?_eq_getElem hi, List.getElem?_eq_getElem hj, Option.getD_some] at this
  omega
theorem mem_getD {ps : List Nat} {x : Nat} : x ∈ ps ↔ ∃ t, t < ps.length ∧ ps.getD t 0 = x := by
  rw [List.mem_iff_getElem]
  constructor
  · rintro ⟨t, ht, rfl⟩
    exact ⟨t, ht, by simp [List.getD_eq_getElem?_getD, List.getElem?_eq_getElem ht]⟩
  · rintro ⟨t, ht, rfl⟩
    exact ⟨t, ht, by simp [List.getD_eq_getElem?_getD, List.getElem?_eq_getElem ht]⟩
theorem RF.mem' {R : List (List G)} {ps : List Nat} {c : Nat} (h : RF R ps c) {j : Nat} : j ∈ ps ↔ j < c ∧ Ld R j := by
  rw [mem_getD]
  constructor
  · rintro ⟨t, ht, rfl⟩
    have := h.lt t ht
    exact ⟨this, (h.mem this).2 ⟨t, ht, rfl⟩⟩
  · rintro ⟨h1, h2⟩
    exact (h.mem h1).1 h2
theorem rank_less {R S : List (List G)} {ps qs : List Nat} {c : Nat} (h1 : RF R ps c) (h2 : RF S qs c) (h : ∀ v, Sp R v → Sp S v) : ps.length ≤ qs.length :=
  (asc_nodup h1.asc).length_le_of_subset (fun j hj => by
    rw [h1.mem'] at hj
    exact h2.mem'.2 ⟨hj.1, Ld.of h hj.2⟩)
/-- Each sum of S's rows is one of R's and so often r: there is at most one pivot more. -/
theorem rank_more {R S : List (List G)} {ps qs : List Nat} {c : Nat} (h1 : RF R ps c) (h2 : RF S qs c) (r : Nat → G) (h : ∀ v, Sp S v → ∃ a w, Sp R w ∧ ∀ j, v j = a * r j + w j) : qs.length ≤ ps.length + 1 := by
  have key : ∀ i j, i < j → i ∈ qs → j ∈ qs → i ∉ ps → j ∉ ps → False := by
    intro i j hij hi hj hi2 hj2
    rw [h2.mem'] at hi hj
    rw [h1.mem'] at hi2 hj2
    obtain ⟨v, hv, hvz, hvn⟩ := hi.2
    obtain ⟨w, hw, hwz, hwn⟩ := hj.2
    obtain ⟨a, v', hv', ea⟩ := h v hv
    obtain ⟨b, w', hw', eb⟩ := h w hw
    by_cases hb : b = 0
    · refine hj2 ⟨hj.1, w', hw', ?_, ?_⟩
      · intro k hk
        have := eb k
        rw [hb, zero_mul, zero_add, hwz k hk] at this
        exact this.symm
      · have := eb j
        rw [hb, zero_mul, zero_add] at this
        rw [← this]
        exact hwn
    · refine hi2 ⟨hi.1, fun k => v' k + (a * inv b) * w' k, hv'.add (hw'.mul _), ?_⟩
      have e : ∀ k, v' k + (a * inv b) * w' k = v k + (a * inv b) * w k := by
        intro k
        have hab : a * inv b * b = a := by rw [mul_assoc, inv_mul hb, mul_one]
        rw [ea k, eb k, mul_add, ← mul_assoc (a * inv b) b, hab]
        generalize a * r k = p
        generalize a * inv b * w' k = q
        rw [show p + v' k + (p + q) = (p + p) + (v' k + q) by ac_rfl, add_self, zero_add]
      constructor
      · intro k hk
        dsimp only
        rw [e, hvz k hk, hwz k (by omega), mul_zero, add_zero]
      · dsimp only
        rw [e, hwz i hij, mul_zero, add_zero]
        exact hvn
  by_cases hsub : ∃ x, x ∈ qs ∧ x ∉ ps
  · obtain ⟨x, hx, hx2⟩ := hsub
    have hs : qs ⊆ x :: ps := by
      intro j hj
      by_cases hjp : j ∈ ps
      · exact List.mem_cons_of_mem _ hjp
      · rcases Nat.lt_trichotomy j x with e | e | e
        · exact (key j x e hj hx hjp hx2).elim
        · rw [e]; exact List.mem_cons_self
        · exact (key x j e hx hj hx2 hjp).elim
    have := (asc_nodup h2.asc).length_le_of_subset hs
    rw [List.length_cons] at this
    exact this
  · have hs : qs ⊆ ps := fun j hj => Classical.byContradiction (fun e => hsub ⟨j, hj, e⟩)
    have := (asc_nodup h2.asc).length_le_of_subset hs
    omega
theorem reduce_again {M : List (List G)} {c : Nat} (hw : Wd M c) : reduce (reduce M c).1 c = reduce M c := by
  have h := (reduce_RF (reduce M c).1 c).unique (reduce_RF M c) (fun v => reduce_span _ _ v) (reduce_width c (reduce_width c hw)) (reduce_width c hw) (by rw [reduce_length])
  exact Prod.ext h.1 h.2
theorem rank_snoc {M : List (List G)} {r : List G} {c : Nat} (h : Sp M (co r)) : (reduce (M ++ [r]) c).2 = (reduce M c).2 := by
  have hsp : ∀ v, Sp (M ++ [r]) v ↔ Sp M v := by
    intro v
    constructor
    · refine Sp.le (fun i hi => ?_)
      rw [row_append]
      by_cases e : i < M.length
      · rw [if_pos e]; exact Sp.row e
      · rw [if_neg e]
        simp at hi
        rw [show i - M.length = 0 by omega]
        exact h
    · refine Sp.le (fun i hi => ?_)
      have : row M i = row (M ++ [r]) i := by rw [row_append, if_pos hi]
      rw [this]
      exact Sp.row (by simp; omega)
  exact pivots_eq (reduce_RF _ _) (reduce_RF _ _) (fun j _ => ⟨Ld.of (fun v hv => (reduce_span _ _ v).2 ((hsp v).1 ((reduce_span _ _ v).1 hv))), Ld.of (fun v hv => (reduce_span _ _ v).2 ((hsp v).2 ((reduce_span _ _ v).1 hv)))⟩)
theorem rank_drop {M : List (List G)} {c : Nat} (hM : 0 < M.length) : (reduce (M.drop 1) c).2.length ≤ (reduce M c).2.length ∧ (reduce M c).2.length ≤ (reduce (M.drop 1) c).2.length + 1 := by
  have hl : (M.drop 1).length + 1 = M.length := by rw [List.length_drop]; omega
  constructor
  · refine rank_less (reduce_RF _ _) (reduce_RF _ _) (fun v hv => (reduce_span _ _ v).2 (Sp.le (fun i hi => ?_) ((reduce_span _ _ v).1 hv)))
    rw [row_drop]
    exact Sp.row (by omega)
  · refine rank_more (reduce_RF _ _) (reduce_RF _ _) (co (row M 0)) (fun v hv => ?_)
    obtain ⟨f, hf⟩ := (reduce_span _ _ v).1 hv
    refine ⟨f 0, fun j => sum (fun i => f (i + 1) * co (row (M.drop 1) i) j) (M.drop 1).length, (reduce_span _ _ _).2 ⟨fun i => f (i + 1), fun _ => rfl⟩, fun j => ?_⟩
    rw [hf, ← hl, sum_front]
    congr 1
    apply sum_congr
    intro i _
    rw [row_drop, Nat.add_comm 1 i]
end Go.Proofs.Ytanknpdibjfmlaa.Al
