/- What the statement's proof uses: lemmas, and the program's functions as Lean functions; each theorem states its own conditions. Joined by a program. -/
import Derived.Test.YtcdmgppjhdpgkaaZStripeSumsD
namespace Go.Proofs.Ytcdmgppjhdpgkaa.Al
open Go Go.RowKit Go.Proofs.YtcdmgppjhdpgkaaW.PrintWords Go.Proofs.YtcdmgppjhdpgkaaW.PrintMore Go.Proofs.Ytcdmgppjhdpgkaa.P
set_option linter.unusedVariables false
set_option linter.unusedSimpArgs false
def gen (d : List G) : List G := interp (places d.length) d
theorem gen_facts {d : List G} (hd : d.length ≤ 256) : (gen d).length ≤ d.length ∧ trim (gen d) = gen d ∧ ∀ j, j < d.length → ev (gen d) (pl j) = co d j := by
 obtain ⟨h1, h2, h3⟩ := interp_facts (ys := d) (places_nodup hd)
 rw [places_length] at h1 h3
 refine ⟨h1, h2, fun j hj => ?_⟩
 have := h3 j hj
 rwa [co_places hj] at this
theorem gen_unique {d p : List G} (hd : d.length ≤ 256) (hp : p.length ≤ d.length) (h : ∀ j, j < d.length → ev p (pl j) = co d j) : trim p = gen d :=
 interp_unique (places_nodup hd) (by rw [places_length]; exact hp) (fun j hj => by
  rw [places_length] at hj
  rw [co_places hj]
  exact h j hj)
theorem through_places (d : List G) (hd : d.length ≤ 256) : Ev (fun k => poly_Through.f k (bs (places d.length)) (bs d)) (bs (gen d), 0) :=
 through_ev _ _ (places_nodup hd) (places_length _) (by rw [places_length]; omega)
def more (d : List G) (k : Nat) : List G := tab k (fun i => ev (gen d) (pl (d.length + i)))
theorem more_length (d : List G) (k : Nat) : (more d k).length = k := tab_length k _
theorem encode_l0 (d : List G) (k : Nat) (hd : d.length + k ≤ 255) (e : Nat) : ∀ n : Nat, n + e = k →
 Ev (fun f => systematic_Encode.l0 f (d.length : Int) (bs (gen d)) (bs (more d n)) (k : Int) (n : Int)) (bs (more d k), 0) := by
 have hg := (gen_facts (d := d) (by omega)).1
 induction e with
 | zero =>
  intro n hn
  obtain rfl : n = k := by omega
  exact Ev.step (fun k => systematic_Encode.l0.eq_2 _ _ _ _ _ _) (Ev.neg (by omega) (Ev.now _))
 | succ e ih =>
  intro n hn
  refine Ev.step (fun k => systematic_Encode.l0.eq_2 _ _ _ _ _ _) (Ev.pos (by omega) ?_)
  have hw : wrap64 ((d.length : Int) + (n : Int)) = ((d.length + n : Nat) : Int) := by rw [wrap_sm (by omega) (by omega)]; omega
  rw [hw, pl_i]
  refine Ev.bind (eval_ev _ _ (by omega)) (Ev.pos (by rw [bs_length, more_length]; omega) ?_)
  rw [more, tab_bs n (fun i => ev (gen d) (pl (d.length + i))), wrap_succ (by omega)]
  exact ih (n + 1) (by omega)
theorem encode_ev (d : List G) (k : Nat) (h0 : 0 < d.length) (hd : d.length + k ≤ 255) : Ev (fun f => systematic_Encode.f f (bs d) (k : Int)) (bs (more d k), 0) := by
 refine Ev.congr (fun k => systematic_Encode.f.eq_1 _ _ _) (Ev.neg (by rw [bs_length]; omega) ?_)
 rw [decide_eq_false (by omega)]
 refine Ev.step (fun k => systematic_Encode.j0.eq_2 _ _ _ _ _) (Ev.neg (by simp) (Ev.neg (by omega) (Ev.neg ?_ ?_)))
 ·rw [bs_length, wrap_sm (by omega) (by omega)]; omega
 ·rw [bs_length]
  exact Ev.bind (places_ev _ (by omega)) (Ev.bind (through_places d (by omega)) (encode_l0 d k hd k 0 (by omega)))
def May (w : List G) (n : Int) : Prop := n ≥ 1 ∧ n ≤ w.length ∧ w.length ≤ 255
instance (w : List G) (n : Int) : Decidable (May w n) := inferInstanceAs (Decidable (_ ∧ _ ∧ _))
end Go.Proofs.Ytcdmgppjhdpgkaa.Al
namespace Go.Proofs.Ytcdmgppjhdpgkaa.Al
set_option linter.unusedVariables false
set_option linter.unusedSimpArgs false
def row (M : List (List G)) (i : Nat) : List G := M.getD i []
theorem row_lt {M : List (List G)} {i : Nat} (h : i < M.length) : row M i = M[i] := by
 simp [row, List.getD_eq_getElem?_getD, List.getElem?_eq_getElem h]
theorem row_ge {M : List (List G)} {i : Nat} (h : M.length ≤ i) : row M i = [] := by
 simp [row, List.getD_eq_getElem?_getD, List.getElem?_eq_none h]
theorem row_set (M : List (List G)) (n i : Nat) (r : List G) (h : n < M.length) : row (M.set n r) i = if i = n then r else row M i := by
 simp only [row, List.getD_eq_getElem?_getD, List.getElem?_set]
 by_cases e : n = i
 ·subst e
  simp [h]
 ·simp [e, Ne.symm e]
theorem ext_row {M N : List (List G)} (hl : M.length = N.length) (h : ∀ i, i < M.length → row M i = row N i) : M = N := by
 apply List.ext_getElem hl
 intro i h1 h2
 have := h i h1
 rwa [row_lt h1, row_lt h2] at this
def tabR (n : Nat) (f : Nat → List G) : List (List G) := (List.range n).map f
theorem tabR_length (n : Nat) (f : Nat → List G) : (tabR n f).length = n := by simp [tabR]
theorem row_tabR (n : Nat) (f : Nat → List G) (i : Nat) (h : i < n) : row (tabR n f) i = f i := by
 rw [row_lt (by rw [tabR_length]; exact h)]
 simp [tabR]
theorem tabR_succ (n : Nat) (f : Nat → List G) : tabR (n + 1) f = tabR n f ++ [f n] := by simp [tabR, List.range_succ]
def Wd (M : List (List G)) (w : Nat) : Prop := ∀ i, i < M.length → (row M i).length = w
def Sp (M : List (List G)) (v : Nat → G) : Prop := ∃ f : Nat → G, ∀ j, v j = sum (fun i => f i * co (row M i) j) M.length
theorem Sp.zero (M : List (List G)) : Sp M (fun _ => 0) := ⟨fun _ => 0, fun j => by rw [sum_eq_zero]; intro i _; rw [zero_mul]⟩
theorem Sp.congr {M : List (List G)} {v w : Nat → G} (hv : Sp M v) (h : ∀ j, v j = w j) : Sp M w := by
 obtain ⟨f, hf⟩ := hv
 exact ⟨f, fun j => by rw [← h, hf]⟩
theorem Sp.add {M : List (List G)} {v w : Nat → G} (hv : Sp M v) (hw : Sp M w) : Sp M (fun j => v j + w j) := by
 obtain ⟨f, hf⟩ := hv
 obtain ⟨g, hg⟩ := hw
 refine ⟨fun i => f i + g i, fun j => ?_⟩
 dsimp only
 rw [hf, hg, ← sum_add]
 apply sum_congr
 intro i _
 rw [add_mul]
theorem Sp.mul {M : List (List G)} {v : Nat → G} (c : G) (hv : Sp M v) : Sp M (fun j => c * v j) := by
 obtain ⟨f, hf⟩ := hv
 refine ⟨fun i => c * f i, fun j => ?_⟩
 dsimp only
 rw [hf, ← sum_mul]
 apply sum_congr
 intro i _
 rw [mul_assoc]
theorem Sp.row {M : List (List G)} {i : Nat} (h : i < M.length) : Sp M (co (row M i)) := by
 refine ⟨fun k => if k = i then 1 else 0, fun j => ?_⟩
 rw [sum_single (k := i) h]
 ·dsimp only
  rw [if_pos rfl, one_mul]
 ·intro k _ hk
  dsimp only
  rw [if_neg hk, zero_mul]
theorem Sp.sums {M : List (List G)} (f : Nat → G) (r : Nat → Nat → G) (n : Nat) (h : ∀ i, i < n → Sp M (r i)) : Sp M (fun j => sum (fun i => f i * r i j) n) := by
 induction n with
 | zero => exact Sp.zero M
 | succ n ih => exact ((ih (fun i hi => h i (by omega))).add ((h n (by omega)).mul (f n))).congr (fun j => rfl)
def swp (M : List (List G)) (a u k : Nat) : List G := if k = a then row M u else if k = u then row M a else row M k
def piv (M : List (List G)) (c u : Nat) : List G := scale (inv (co (row M u) c)) (row M u)
def elim (M : List (List G)) (a c u : Nat) : List (List G) := tabR M.length (fun k => if k = a then piv M c u else zadd (swp M a u k) (scale (co (swp M a u k) c) (piv M c u)))
theorem elim_length (M : List (List G)) (a c u : Nat) : (elim M a c u).length = M.length := tabR_length _ _
theorem row_elim {M : List (List G)} {a c u k : Nat} (h : k < M.length) : row (elim M a c u) k = if k = a then piv M c u else zadd (swp M a u k) (scale (co (swp M a u k) c) (piv M c u)) := row_tabR _ _ _ h
theorem co_piv (M : List (List G)) (c u j : Nat) : co (piv M c u) j = inv (co (row M u) c) * co (row M u) j := co_scale _ _ _
theorem co_elim_at {M : List (List G)} {a c u : Nat} (h : a < M.length) (j : Nat) : co (row (elim M a c u) a) j = co (piv M c u) j := by rw [row_elim h, if_pos rfl]
theorem co_elim {M : List (List G)} {a c u k : Nat} (h : k < M.length) (hk : k ≠ a) (j : Nat) : co (row (elim M a c u) k) j = co (swp M a u k) j + co (swp M a u k) c * co (piv M c u) j := by
 rw [row_elim h, if_neg hk, co_zadd, co_scale]
structure RF (M : List (List G)) (ps : List Nat) (c : Nat) : Prop where
 len : ps.length ≤ M.length
 lt : ∀ t, t < ps.length → ps.getD t 0 < c
 asc : ∀ s t, s < t → t < ps.length → ps.getD s 0 < ps.getD t 0
 unit : ∀ i t, i < M.length → t < ps.length → co (row M i) (ps.getD t 0) = if i = t then 1 else 0
 low : ∀ i j, ps.length ≤ i → i < M.length → j < c → co (row M i) j = 0
 lead : ∀ t j, t < ps.length → j < ps.getD t 0 → co (row M t) j = 0
theorem RF.skip {M : List (List G)} {ps : List Nat} {c : Nat} (h : RF M ps c) (hz : ∀ i, ps.length ≤ i → i < M.length → co (row M i) c = 0) : RF M ps (c + 1) where
 len := h.len
 lt := fun t ht => Nat.lt_succ_of_lt (h.lt t ht)
 asc := h.asc
 unit := h.unit
 low := fun i j hi hi2 hj => by
  by_cases e : j = c
  ·rw [e]; exact hz i hi hi2
  ·exact h.low i j hi hi2 (by omega)
 lead := h.lead
theorem getD_snoc (ps : List Nat) (c t : Nat) : (ps ++ [c]).getD t 0 = if t < ps.length then ps.getD t 0 else if t = ps.length then c else 0 := by
 simp only [List.getD_eq_getElem?_getD, List.getElem?_append]
 by_cases h : t < ps.length
 ·rw [if_pos h, if_pos h]
 ·rw [if_neg h, if_neg h]
  by_cases e : t = ps.length
  ·rw [if_pos e, e]; simp
  ·rw [if_neg e, List.getElem?_eq_none (by simp; omega)]; rfl
theorem RF.step {M : List (List G)} {ps : List Nat} {c u : Nat} (h : RF M ps c) (hu : ps.length ≤ u) (hu2 : u < M.length) (hp : co (row M u) c ≠ 0) : RF (elim M ps.length c u) (ps ++ [c]) (c + 1) := by
 have ha : ps.length < M.length := by omega
 have hpz : ∀ j, j < c → co (piv M c u) j = 0 := fun j hj => by rw [co_piv, h.low u j hu hu2 hj, mul_zero]
 have hpc : co (piv M c u) c = 1 := by rw [co_piv, inv_mul hp]
 have hsl : ∀ k, ps.length < k → k < M.length → ∀ j, j < c → co (swp M ps.length u k) j = 0 := by
  intro k hk hk2 j hj
  unfold swp
  rw [if_neg (by omega)]
  split
  ·exact h.low _ j (Nat.le_refl _) ha hj
  ·exact h.low _ j (by omega) hk2 hj
 have hsk : ∀ k, k < ps.length → swp M ps.length u k = row M k := by
  intro k hk
  unfold swp
  rw [if_neg (by omega), if_neg (by omega)]
 have hcol : ∀ i, i < M.length → co (row (elim M ps.length c u) i) c = if i = ps.length then 1 else 0 := by
  intro i hi
  by_cases e : i = ps.length
  ·rw [if_pos e, e, co_elim_at ha, hpc]
  ·rw [if_neg e, co_elim hi e, hpc, mul_one, add_self]
 have hbel : ∀ i j, i < M.length → j < c → co (row (elim M ps.length c u) i) j = if i < ps.length then co (row M i) j else 0 := by
  intro i j hi hj
  by_cases e : i = ps.length
  ·rw [e, co_elim_at ha, hpz j hj, if_neg (Nat.lt_irrefl _)]
  ·rw [co_elim hi e, hpz j hj, mul_zero, add_zero]
   by_cases hlt : i < ps.length
   ·rw [if_pos hlt, hsk i hlt]
   ·rw [if_neg hlt, hsl i (by omega) hi j hj]
 have hget : ∀ t, t < ps.length → (ps ++ [c]).getD t 0 = ps.getD t 0 := fun t ht => by rw [getD_snoc, if_pos ht]
 have hend : (ps ++ [c]).getD ps.length 0 = c := by rw [getD_snoc, if_neg (Nat.lt_irrefl _), if_pos rfl]
 have hl : (ps ++ [c]).length = ps.length + 1 := by simp
 constructor
 ·rw [hl, elim_length]; omega
 ·intro t ht
  rw [hl] at ht
  by_cases e : t = ps.length
  ·rw [e, hend]; omega
  ·rw [hget t (by omega)]
   have := h.lt t (by omega)
   omega
 ·intro s t hst ht
  rw [hl] at ht
  rw [hget s (by omega)]
  by_cases e : t = ps.length
  ·rw [e, hend]
   exact h.lt s (by omega)
  ·rw [hget t (by omega)]
   exact h.asc s t hst (by omega)
 ·intro i t hi ht
  rw [hl] at ht
  rw [elim_length] at hi
  by_cases e : t = ps.length
  ·rw [e, hend, hcol i hi]
  ·rw [hget t (by omega), hbel i _ hi (h.lt t (by omega))]
   by_cases hlt : i < ps.length
   ·rw [if_pos hlt, h.unit i t hi (by omega)]
   ·rw [if_neg hlt, if_neg (by omega)]
 ·intro i j hi hi2 hj
  rw [hl] at hi
  rw [elim_length] at hi2
  by_cases e : j = c
  ·rw [e, hcol i hi2, if_neg (by omega)]
  ·rw [hbel i j hi2 (by omega), if_neg (by omega)]
 ·intro t j ht hj
  rw [hl] at ht
  by_cases e : t = ps.length
  ·rw [e, hend] at hj
   rw [e, hbel _ j ha hj, if_neg (Nat.lt_irrefl _)]
  ·rw [hget t (by omega)] at hj
   have := h.lt t (by omega)
   rw [hbel t j (by omega) (by omega), if_pos (by omega)]
   exact h.lead t j (by omega) hj
def Ld (M : List (List G)) (j : Nat) : Prop := ∃ v, Sp M v ∧ (∀ i, i < j → v i = 0) ∧ v j ≠ 0
theorem Ld.of {M N : List (List G)} (h : ∀ v, Sp M v → Sp N v) {j : Nat} (hl : Ld M j) : Ld N j := by
 obtain ⟨v, h1, h2⟩ := hl
 exact ⟨v, h v h1, h2⟩
end Go.Proofs.Ytcdmgppjhdpgkaa.Al
namespace Go.Proofs.Ytcdmgppjhdpgkaa.Al
set_option linter.unusedVariables false
set_option linter.unusedSimpArgs false
def one (n : Nat) (x : Nat → G) (j : Nat) : G := if j < n then x j else 1
end Go.Proofs.Ytcdmgppjhdpgkaa.Al
namespace Go.Proofs.Ytcdmgppjhdpgkaa.Al
open Go Go.RowKit Go.Proofs.YtcdmgppjhdpgkaaW.PrintWords Go.Proofs.YtcdmgppjhdpgkaaW.PrintMore Go.Proofs.Ytcdmgppjhdpgkaa.P
set_option linter.unusedVariables false
set_option linter.unusedSimpArgs false
def bss (M : List (List G)) : List (List Int) := M.map bs
theorem bss_length (M : List (List G)) : (bss M).length = M.length := List.length_map _
theorem rd_bss (M : List (List G)) (i : Nat) : rd_L1 (bss M) (i : Int) = bs (row M i) := by
 simp only [rd_L1, bss, Int.toNat_natCast, row, List.getD_eq_getElem?_getD, List.getElem?_map]
 cases M[i]? <;> rfl
theorem rd_bss0 (M : List (List G)) : rd_L1 (bss M) 0 = bs (row M 0) := rd_bss M 0
theorem bss_set (M : List (List G)) (n : Nat) (r : List G) : (bss M).set n (bs r) = bss (M.set n r) := List.map_set.symm
theorem bss_snoc (M : List (List G)) (r : List G) : bss M ++ [bs r] = bss (M ++ [r]) := by simp [bss]
theorem bss_take (M : List (List G)) (n : Nat) : (bss M).take n = bss (M.take n) := List.map_take.symm
theorem rows_in : ∀ l : List (List Int), (∀ x ∈ l, ∀ y ∈ x, (Lit.int .u8 y).wf = true) → ∃ M, l = bss M := by
 intro l
 induction l with
 | nil => intro _; exact ⟨[], rfl⟩
 | cons a l ih =>
  intro h
  obtain ⟨M, rfl⟩ := ih (fun x hx => h x (List.mem_cons_of_mem _ hx))
  obtain ⟨p, rfl⟩ := bytes_in (h a List.mem_cons_self)
  exact ⟨p :: M, rfl⟩
def wid (M : List (List G)) : Nat := (row M 0).length
def Rt (M : List (List G)) : Prop := Wd M (wid M)
instance (M : List (List G)) : Decidable (Rt M) := Nat.decidableBallLT M.length (fun i _ => (row M i).length = wid M)
theorem row_snoc_take {M : List (List G)} {n : Nat} (h : n < M.length) : M.take n ++ [row M n] = M.take (n + 1) := by
 rw [List.take_succ_eq_append_getElem h, row_lt h]
def Fit (M : List (List G)) : Prop := M.length < 1000000 ∧ ∀ i, i < M.length → (row M i).length < 1000000
theorem Fit.of {M : List (List G)} {w : Nat} (h1 : M.length < 1000000) (hw : Wd M w) (h2 : w < 1000000) : Fit M := ⟨h1, fun i hi => by rw [hw i hi]; exact h2⟩
theorem Fit.wid {M : List (List G)} (h : Fit M) : wid M < 1000000 := by
 unfold Al.wid
 by_cases e : 0 < M.length
 ·exact h.2 0 e
 ·rw [row_ge (by omega)]; decide
theorem fidx_idx {α : Type} (p : α → Bool) : ∀ (l : List α) (i : Nat), fidx p l i = if l.findIdx p < l.length then ((i + l.findIdx p : Nat) : Int) else -1 := by
 intro l
 induction l with
 | nil => intro i; rfl
 | cons a l ih =>
  intro i
  rw [fidx, List.findIdx_cons]
  cases h : p a with
  | true => simp
  | false =>
   rw [if_neg (by simp), ih]
   simp only [Bool.cond_false, List.length_cons]
   by_cases e : l.findIdx p < l.length
   ·rw [if_pos e, if_pos (by omega)]; omega
   ·rw [if_neg e, if_neg (by omega)]
theorem findIdx_bss (p : List Int → Bool) (q : List G → Bool) (h : ∀ r, p (bs r) = q r) (M : List (List G)) : (bss M).findIdx p = M.findIdx q := by
 rw [bss, List.findIdx_map]
 congr 1
 funext r
 exact h r
end Go.Proofs.Ytcdmgppjhdpgkaa.Al
namespace Go.Proofs.Ytcdmgppjhdpgkaa.Al
open Go Go.RowKit Go.Proofs.YtcdmgppjhdpgkaaW.PrintWords Go.Proofs.YtcdmgppjhdpgkaaW.PrintMore Go.Proofs.Ytcdmgppjhdpgkaa.P
set_option linter.unusedVariables false
set_option linter.unusedSimpArgs false
def crow (M : List (List G)) (i : Nat) : List G := M.map (fun c => co c i)
theorem crow_length (M : List (List G)) (i : Nat) : (crow M i).length = M.length := List.length_map _
theorem co_crow (M : List (List G)) (i j : Nat) (hj : j < M.length) : co (crow M i) j = co (row M j) i := by
 rw [row_lt hj, crow, co_lt (by rw [List.length_map]; exact hj), List.getElem_map]
theorem crow_snoc (M : List (List G)) (n i : Nat) (h : n < M.length) : crow (M.take n) i ++ [co (row M n) i] = crow (M.take (n + 1)) i := by
 rw [← row_snoc_take h, crow, crow, List.map_append]; rfl
theorem row_l0 (M : List (List G)) (i w : Nat) (hM : Fit M) (hw : Wd M w) (hi : i < w) (d : Nat) : ∀ n : Nat, n + d = M.length →
 Ev (fun k => stripe_row.l0 k (i : Int) (bs (crow (M.take n) i)) (bss M) (M.length : Int) (n : Int)) (bs (crow M i)) := by
 have h1 := hM.1
 induction d with
 | zero =>
  intro n hn
  obtain rfl : n = M.length := by omega
  exact Ev.step (fun k => stripe_row.l0.eq_2 _ _ _ _ _ _) (Ev.neg (by omega) (evc (Ev.now _) (by rw [List.take_length])))
 | succ d ih =>
  intro n hn
  have hr := hw n (by omega)
  have hl := hM.2 n (by omega)
  refine Ev.step (fun k => stripe_row.l0.eq_2 _ _ _ _ _ _) (Ev.pos (by omega) (Ev.pos (by omega) (Ev.pos (by rw [bss_length]; omega) (Ev.pos (by omega) ?_))))
  rw [rd_bss, bs_length, rd_bs, wrap_succ (by omega)]
  refine Ev.pos (by omega) (Ev.pos (by rw [bs_length, crow_length, List.length_take]; omega) ?_)
  have e : bs (crow (M.take n) i) ++ [(co (row M n) i).i] = bs (crow (M.take (n + 1)) i) := by
   rw [← crow_snoc M n i (by omega), bs_append]; rfl
  rw [e]
  exact ih (n + 1) (by omega)
theorem row_ev (M : List (List G)) (i w : Nat) (hM : Fit M) (hw : Wd M w) (hi : i < w) : Ev (fun k => stripe_row.f k (bss M) (i : Int)) (bs (crow M i)) := by
 refine Ev.congr (fun k => stripe_row.f.eq_1 _ _ _) ?_
 rw [bss_length]
 exact row_l0 M i w hM hw hi M.length 0 (by omega)
def par (M : List (List G)) (k w : Nat) : List (List G) := tabR k (fun j => tab w (fun i => co (more (crow M i) k) j))
theorem par_length (M : List (List G)) (k w : Nat) : (par M k w).length = k := tabR_length _ _
theorem row_par (M : List (List G)) {k w j : Nat} (h : j < k) : row (par M k w) j = tab w (fun i => co (more (crow M i) k) j) := row_tabR _ _ _ h
def parm (M : List (List G)) (k w m : Nat) : List (List G) := tabR k (fun j => tab (if j < m then w + 1 else w) (fun i => co (more (crow M i) k) j))
theorem parm_zero (M : List (List G)) (k w : Nat) : parm M k w 0 = par M k w := by
 unfold parm par
 congr 1
theorem parm_all (M : List (List G)) (k w : Nat) : parm M k w k = par M k (w + 1) := by
 apply ext_row
 ·rw [parm, par, tabR_length, tabR_length]
 ·intro j hj
  rw [parm, tabR_length] at hj
  rw [parm, par, row_tabR _ _ _ hj, row_tabR _ _ _ hj, if_pos hj]
theorem parm_set (M : List (List G)) (k w m : Nat) (hm : m < k) : (parm M k w m).set m (row (parm M k w m) m ++ [co (more (crow M w) k) m]) = parm M k w (m + 1) := by
 apply ext_row
 ·rw [List.length_set, parm, parm, tabR_length, tabR_length]
 ·intro j hj
  rw [List.length_set, parm, tabR_length] at hj
  have e1 : (parm M k w m).length = k := tabR_length _ _
  have e2 : ∀ m' j', j' < k → row (parm M k w m') j' = tab (if j' < m' then w + 1 else w) (fun i => co (more (crow M i) k) j') := fun m' j' h => row_tabR _ _ _ h
  rw [row_set _ _ _ _ (by rw [e1]; exact hm), e2 _ _ hm, e2 _ _ hj, e2 _ _ hj]
  by_cases e : j = m
  ·subst e
   rw [if_pos rfl, if_neg (Nat.lt_irrefl _), if_pos (Nat.lt_succ_self _), tab_succ]
  ·rw [if_neg e]
   by_cases e3 : j < m
   ·rw [if_pos e3, if_pos (show j < m + 1 by omega)]
   ·rw [if_neg e3, if_neg (show ¬ j < m + 1 by omega)]
theorem parity_l1 (M : List (List G)) (k w i : Nat) (hk : k ≤ 255) (hi : i < 1000000) (d : Nat) : ∀ (m : Nat) (r : List (List Int) × Int), m + d = k →
 Ev (fun f => stripe_Parity.l0 f (k : Int) (bss M) (bss (par M k (i + 1))) (w : Int) (wrap64 ((i : Int) + 1))) r →
 Ev (fun f => stripe_Parity.l1 f (k : Int) (bss M) (bss (parm M k i m)) (w : Int) (i : Int) (bs (more (crow M i) k)) (k : Int) (m : Int)) r := by
 induction d with
 | zero =>
  intro m r hm h
  obtain rfl : m = k := by omega
  refine Ev.step (fun f => stripe_Parity.l1.eq_2 _ _ _ _ _ _ _ _ _) (Ev.neg (by omega) ?_)
  rw [parm_all]
  exact h
 | succ d ih =>
  intro m r hm h
  have hl : (parm M k i m).length = k := tabR_length _ _
  have hr : (row (parm M k i m) m).length = i := by rw [parm, row_tabR _ _ _ (by omega), tab_length, if_neg (by omega)]
  refine Ev.step (fun f => stripe_Parity.l1.eq_2 _ _ _ _ _ _ _ _ _) (Ev.pos (by omega) (Ev.pos (by omega) (Ev.pos (by rw [bs_length, more_length]; omega) (Ev.pos (by rw [bss_length, hl]; omega) ?_))))
  rw [rd_bss, rd_bs, wrap_succ (by omega), Int.toNat_natCast]
  have e : bs (row (parm M k i m) m) ++ [(co (more (crow M i) k) m).i] = bs (row (parm M k i m) m ++ [co (more (crow M i) k) m]) := by rw [bs_append]; rfl
  refine Ev.pos (by rw [bs_length, hr]; omega) ?_
  rw [e, bss_set, parm_set M k i m (by omega)]
  exact ih (m + 1) r (by omega) h
theorem parity_l0 (M : List (List G)) (k w : Nat) (hM : Fit M) (hw : Wd M w) (h0 : 0 < M.length) (hk : M.length + k ≤ 255) (d : Nat) : ∀ i : Nat, i + d = w →
 Ev (fun f => stripe_Parity.l0 f (k : Int) (bss M) (bss (par M k i)) (w : Int) (i : Int)) (bss (par M k w), 0) := by
 have hww : w < 1000000 := by rw [← hw 0 h0]; exact hM.2 0 h0
 induction d with
 | zero =>
  intro i hi
  obtain rfl : i = w := by omega
  exact Ev.step (fun k => stripe_Parity.l0.eq_2 _ _ _ _ _ _) (Ev.neg (by omega) (Ev.now _))
 | succ d ih =>
  intro i hi
  refine Ev.step (fun k => stripe_Parity.l0.eq_2 _ _ _ _ _ _) (Ev.pos (by omega) (Ev.bind (row_ev M i w hM hw (by omega)) (Ev.bind (encode_ev (crow M i) k (by rw [crow_length]; omega) (by rw [crow_length]; omega)) ?_)))
  dsimp only
  rw [bs_length, more_length, ← parm_zero]
  refine parity_l1 M k w i (by omega) (by omega) k 0 _ (by omega) ?_
  rw [wrap_succ (by omega)]
  exact ih (i + 1) (by omega)
theorem fidx_rt (M : List (List G)) : decide (fidx (fun x => (x.length : Int) != ((rd_L1 (bss M) 0).length : Int)) (bss M) 0 ≥ 0) = decide (¬ Rt M) := by
 rw [fidx_idx, findIdx_bss _ (fun r => decide (r.length ≠ wid M)) (fun r => by
  rw [rd_bss0, bs_length, bs_length]
  show (!((r.length : Int) == ((row M 0).length : Int))) = _
  unfold wid
  by_cases e : r.length = (row M 0).length
  ·rw [decide_eq_false (by simp [e])]
   simp [e]
  ·rw [decide_eq_true e]
   simp
   omega), bss_length]
 rw [decide_eq_decide]
 by_cases h : M.findIdx (fun r => decide (r.length ≠ wid M)) < M.length
 ·rw [if_pos h]
  refine iff_of_true (by omega) (fun hr => ?_)
  have h2 := List.findIdx_getElem (w := h)
  rw [← row_lt h] at h2
  exact (of_decide_eq_true h2) (hr _ h)
 ·rw [if_neg h]
  refine iff_of_false (by omega) (fun hn => hn ?_)
  intro i hi
  have h3 := List.not_of_lt_findIdx (p := fun r => decide (r.length ≠ wid M)) (xs := M) (i := i) (by omega)
  rw [← row_lt hi] at h3
  simpa using h3
theorem parity_ev (M : List (List G)) (k w : Nat) (hM : Fit M) (hw : Wd M w) (h0 : 0 < M.length) (hk : M.length + k ≤ 255) : Ev (fun f => stripe_Parity.f f (bss M) (k : Int)) (bss (par M k w), 0) := by
 have hr : wid M = w := hw 0 h0
 have hR : Rt M := by unfold Rt; rw [hr]; exact hw
 refine Ev.congr (fun k => stripe_Parity.f.eq_1 _ _ _) (Ev.neg (by rw [bss_length]; omega) (Ev.neg (by omega) ?_))
 rw [fidx_rt, decide_eq_false (fun h => h hR)]
 refine Ev.step (fun k => stripe_Parity.j0.eq_2 _ _ _ _) (Ev.neg (by simp) (Ev.neg (by omega) ?_))
 rw [bss_length, wrap_sm (by omega) (by omega), decide_eq_false (by omega)]
 refine Ev.step (fun k => stripe_Parity.j1.eq_2 _ _ _ _) (Ev.neg (by simp) (Ev.pos (by omega) (Ev.pos (by rw [Int.toNat_natCast]; omega) (Ev.pos (by rw [bss_length]; omega) ?_))))
 have e : (List.replicate (k : Int).toNat [] : List (List Int)) = bss (par M k 0) := by
  rw [Int.toNat_natCast]
  apply List.ext_getElem
  ·rw [List.length_replicate, bss_length, par_length]
  ·intro j h1 h2
   rw [List.getElem_replicate]
   have hj : j < k := by rw [List.length_replicate] at h1; exact h1
   have := rd_bss (par M k 0) j
   rw [row_par M hj, tab_zero] at this
   simp only [rd_L1, Int.toNat_natCast, List.getD_eq_getElem?_getD, List.getElem?_eq_getElem h2] at this
   exact this.symm
 rw [e, rd_bss0, bs_length]
 have : (row M 0).length = w := hr
 rw [this]
 exact parity_l0 M k w hM hw h0 hk w 0 (by omega)
theorem rows_l0 (M : List (List G)) (hM : Fit M) (d : Nat) : ∀ n : Nat, n + d = M.length → Ev (fun k => footlockerref21_Rows.l0 k (bss M) (bss M) (n : Int)) true := by
 have h1 := hM.1
 induction d with
 | zero =>
  intro n hn
  exact Ev.step (fun k => footlockerref21_Rows.l0.eq_2 _ _ _ _) (Ev.neg (by rw [bss_length]; omega) (Ev.now _))
 | succ d ih =>
  intro n hn
  have hl := hM.2 n (by omega)
  refine Ev.step (fun k => footlockerref21_Rows.l0.eq_2 _ _ _ _) (Ev.pos (by rw [bss_length]; omega) (Ev.pos (by omega) (Ev.pos (by rw [bss_length]; omega) (Ev.bind (same_true rfl (by rw [rd_bss, bs_length]; omega)) (Ev.pos rfl ?_)))))
  rw [wrap_succ (by omega)]
  exact ih (n + 1) (by omega)
theorem rows_ev (M N : List (List G)) (hM : Fit M) (h : M = N) : Ev (fun k => footlockerref21_Rows.f k (bss M) (bss N)) true := by
 subst h
 exact Ev.congr (fun k => footlockerref21_Rows.f.eq_1 _ _ _) (Ev.pos rfl (rows_l0 M hM M.length 0 (by omega)))
theorem par_fit (M : List (List G)) (k w : Nat) (hk : k < 1000000) (hw : w < 1000000) : Fit (par M k w) :=
 ⟨by rw [par_length]; exact hk, fun i hi => by rw [par_length] at hi; rw [row_par M hi, tab_length]; exact hw⟩
theorem co_more (d : List G) {k j : Nat} (hj : j < k) : co (more d k) j = ev (gen d) (pl (d.length + j)) := by rw [more, co_tab, if_pos hj]
theorem par_take (M : List (List G)) (k m w : Nat) (h : m ≤ k) : (par M k w).take m = par M m w := by
 apply ext_row
 ·rw [List.length_take, par_length, par_length]; omega
 ·intro j hj
  rw [List.length_take, par_length] at hj
  have e : row ((par M k w).take m) j = row (par M k w) j := by
   simp only [row, List.getD_eq_getElem?_getD, List.getElem?_take, if_pos (show j < m by omega)]
  rw [e, row_par M (by omega), row_par M (by omega)]
  congr 1
  funext i
  rw [co_more _ (by omega), co_more _ (by omega)]
end Go.Proofs.Ytcdmgppjhdpgkaa.Al
namespace Go.Proofs.Ytcdmgppjhdpgkaa.Al
open Go Go.RowKit Go.Proofs.YtcdmgppjhdpgkaaW.PrintWords Go.Proofs.YtcdmgppjhdpgkaaW.PrintMore Go.Proofs.Ytcdmgppjhdpgkaa.P
set_option linter.unusedVariables false
set_option linter.unusedSimpArgs false
theorem alive_ev : Ev (fun k => footlockerlaw23_alive.f k) true :=
 Ev.of (fun k => footlockerlaw23_alive.mono k) (k := 60) (by decide +kernel)
theorem gen_add {d a b : List G} (hd : d.length ≤ 256) (ha : a.length = d.length) (hb : b.length = d.length) (h : ∀ j, j < d.length → co d j = co a j + co b j) (x : G) : ev (gen d) x = ev (gen a) x + ev (gen b) x := by
 have ga := gen_facts (d := a) (by omega)
 have gb := gen_facts (d := b) (by omega)
 have := gen_unique (d := d) (p := zadd (gen a) (gen b)) hd (by rw [zadd_length]; omega) (fun j hj => by
  rw [ev_zadd, ga.2.2 j (by omega), gb.2.2 j (by omega), h j hj])
 rw [← this, ev_trim, ev_zadd]
theorem more_add {d a b : List G} (hd : d.length ≤ 256) (ha : a.length = d.length) (hb : b.length = d.length) (h : ∀ j, j < d.length → co d j = co a j + co b j) {k j : Nat} (hj : j < k) :
 co (more d k) j = co (more a k) j + co (more b k) j := by
 rw [co_more _ hj, co_more _ hj, co_more _ hj, ha, hb]
 exact gen_add hd ha hb h _
def sums (A B : List (List G)) (w n : Nat) : List (List G) := tabR n (fun i => tab w (fun j => co (row A i) j + co (row B i) j))
theorem sums_length (A B : List (List G)) (w n : Nat) : (sums A B w n).length = n := tabR_length _ _
theorem row_sums (A B : List (List G)) {w n i : Nat} (h : i < n) : row (sums A B w n) i = tab w (fun j => co (row A i) j + co (row B i) j) := row_tabR _ _ _ h
theorem sums_wd (A B : List (List G)) (w n : Nat) : Wd (sums A B w n) w := fun i hi => by
 rw [sums_length] at hi
 rw [row_sums A B hi, tab_length]
theorem par_sums (A B : List (List G)) (k w i j : Nat) (hA : A.length ≤ 255) (hB : B.length = A.length) (hi : i < k) (hj : j < w) :
 co (row (par (sums A B w A.length) k w) i) j = co (row (par A k w) i) j + co (row (par B k w) i) j := by
 rw [row_par _ hi, row_par _ hi, row_par _ hi, co_tab, co_tab, co_tab, if_pos hj, if_pos hj, if_pos hj]
 refine more_add (by rw [crow_length, sums_length]; omega) (by rw [crow_length, crow_length, sums_length]) (by rw [crow_length, crow_length, sums_length, hB]) (fun t ht => ?_) hi
 rw [crow_length, sums_length] at ht
 rw [co_crow _ _ _ (by rw [sums_length]; exact ht), co_crow _ _ _ ht, co_crow _ _ _ (by omega), row_sums A B ht, co_tab, if_pos hj]
end Go.Proofs.Ytcdmgppjhdpgkaa.Al
namespace Go.Proofs.Ytcdmgppjhdpgkaa.Pure
open Go Go.RowKit Go.Proofs.YtcdmgppjhdpgkaaW.PrintWords Go.Proofs.YtcdmgppjhdpgkaaW.PrintMore Go.Proofs.Ytcdmgppjhdpgkaa.P Go.Proofs.Ytcdmgppjhdpgkaa.Al
set_option linter.unusedVariables false
set_option linter.unusedSimpArgs false
theorem sums_l3 (A B : List (List G)) (k w i : Nat) (hA : A.length ≤ 255) (hB : B.length = A.length) (hk : k < 1000) (hw : w < 1000) (hi : i < k)
 (hnext : Ev (fun f => footlockerlaw23_StripeSums.l2 f (bss (par A k w)) (bss (par B k w)) (bss (par (sums A B w A.length) k w)) (k : Int) (wrap64 ((i : Int) + 1))) true) (d : Nat) : ∀ j : Nat, j + d = w →
 Ev (fun f => footlockerlaw23_StripeSums.l3 f (bss (par A k w)) (bss (par B k w)) (bss (par (sums A B w A.length) k w)) (i : Int) (k : Int) (i : Int) (w : Int) (j : Int)) true := by
 have hl : ∀ M, (row (par M k w) i).length = w := fun M => by rw [row_par _ hi, tab_length]
 induction d with
 | zero =>
  intro j hj
  obtain rfl : j = w := by omega
  exact Ev.step (fun k => footlockerlaw23_StripeSums.l3.eq_2 _ _ _ _ _ _ _ _ _) (Ev.neg (by omega) hnext)
 | succ d ih =>
  intro j hj
  refine Ev.step (fun k => footlockerlaw23_StripeSums.l3.eq_2 _ _ _ _ _ _ _ _ _) (Ev.pos (by omega) (Ev.pos (by omega) (Ev.pos (by rw [bss_length, par_length]; omega) (Ev.pos (by omega) ?_))))
  rw [rd_bss, rd_bss, rd_bss, bs_length, bs_length, bs_length, hl, hl, hl, rd_bs, rd_bs, rd_bs]
  refine Ev.pos (by omega) (Ev.pos (by rw [bss_length, par_length]; omega) (Ev.pos (by omega) (Ev.pos (by rw [bss_length, par_length]; omega) (Ev.pos (by omega) ?_))))
  refine Ev.pos (by rw [xor_i, par_sums A B k w i j hA hB hi (by omega)]) ?_
  rw [wrap_succ (by omega)]
  exact ih (j + 1) (by omega)
theorem sums_l2 (A B : List (List G)) (k w : Nat) (hA : A.length ≤ 255) (hB : B.length = A.length) (hk : k < 1000) (hw : w < 1000) (d : Nat) : ∀ i : Nat, i + d = k →
 Ev (fun f => footlockerlaw23_StripeSums.l2 f (bss (par A k w)) (bss (par B k w)) (bss (par (sums A B w A.length) k w)) (k : Int) (i : Int)) true := by
 induction d with
 | zero =>
  intro i hi
  exact Ev.step (fun k => footlockerlaw23_StripeSums.l2.eq_2 _ _ _ _ _ _) (Ev.neg (by omega) (Ev.now _))
 | succ d ih =>
  intro i hi
  refine Ev.step (fun k => footlockerlaw23_StripeSums.l2.eq_2 _ _ _ _ _ _) (Ev.pos (by omega) (Ev.pos (by omega) (Ev.pos (by rw [bss_length, par_length]; omega) ?_)))
  rw [rd_bss, bs_length, row_par _ (show i < k by omega), tab_length]
  refine sums_l3 A B k w i hA hB hk hw (by omega) ?_ w 0 (by omega)
  rw [wrap_succ (by omega)]
  exact ih (i + 1) (by omega)
theorem sums_end (A B : List (List G)) (k w : Nat) (h0 : 0 < A.length) (hA : A.length ≤ 8) (hB : B.length = A.length) (h1 : 1 ≤ k) (hk : k ≤ 6) (hw : w ≤ 40) (wA : Wd A w) (wB : Wd B w) :
 Ev (fun f => footlockerlaw23_StripeSums.l0 f (bss A) (bss B) (k : Int) (bss (sums A B w A.length)) (A.length : Int) (A.length : Int)) true := by
 have fA := Fit.of (by omega) wA (by omega)
 have fB := Fit.of (by omega) wB (by omega)
 have fS := Fit.of (by rw [sums_length]; omega) (sums_wd A B w A.length) (by omega)
 refine Ev.step (fun k => footlockerlaw23_StripeSums.l0.eq_2 _ _ _ _ _ _ _) (Ev.neg (by omega) ?_)
 have e : wrap64 ((k : Int) - 1) = ((k - 1 : Nat) : Int) := by rw [wrap_sm (by omega) (by omega)]; omega
 rw [e, Int.toNat_natCast]
 refine Ev.bind (parity_ev A k w fA wA h0 (by omega)) (Ev.bind (parity_ev B k w fB wB (by omega) (by omega)) (Ev.bind (parity_ev _ k w fS (sums_wd A B w A.length) (by rw [sums_length]; exact h0) (by rw [sums_length]; omega)) (Ev.bind (parity_ev A (k - 1) w fA wA h0 (by omega)) ?_)))
 have hl : ∀ M, ((bss (par M k w)).length : Int) = (k : Int) := fun M => by rw [bss_length, par_length]
 refine Ev.pos rfl (Ev.pos rfl (Ev.pos rfl (Ev.pos rfl (Ev.pos (hl _) (Ev.pos (hl _) (Ev.pos (hl _) (Ev.pos (by omega) (Ev.pos (by rw [hl]; omega) ?_))))))))
 dsimp only
 rw [bss_take, par_take A k (k - 1) w (by omega)]
 refine Ev.bind (rows_ev _ _ (par_fit A (k - 1) w (by omega) (by omega)) rfl) (Ev.step (fun k => footlockerlaw23_StripeSums.j4.eq_2 _ _ _ _ _) (Ev.neg (by simp) ?_))
 rw [hl]
 exact sums_l2 A B k w (by omega) hB (by omega) (by omega) k 0 (by omega)
theorem sums_l1 (A B : List (List G)) (k w i : Nat) (S : List (List Int)) (hA : A.length ≤ 8) (hB : B.length = A.length) (hw : w ≤ 40) (hi : i < A.length) (wA : (row A i).length = w) (wB : (row B i).length = w) (hS : S.length ≤ 8)
 (hnext : Ev (fun f => footlockerlaw23_StripeSums.l0 f (bss A) (bss B) (k : Int) (S ++ [bs (tab w (fun j => co (row A i) j + co (row B i) j))]) (A.length : Int) (wrap64 ((i : Int) + 1))) true) (d : Nat) : ∀ j : Nat, j + d = w →
 Ev (fun f => footlockerlaw23_StripeSums.l1 f (bss A) (bss B) (k : Int) S (i : Int) (bs (tab j (fun j => co (row A i) j + co (row B i) j))) (A.length : Int) (i : Int) (w : Int) (j : Int)) true := by
 induction d with
 | zero =>
  intro j hj
  obtain rfl : j = w := by omega
  exact Ev.step (fun k => footlockerlaw23_StripeSums.l1.eq_2 _ _ _ _ _ _ _ _ _ _ _) (Ev.neg (by omega) (Ev.pos (by omega) hnext))
 | succ d ih =>
  intro j hj
  refine Ev.step (fun k => footlockerlaw23_StripeSums.l1.eq_2 _ _ _ _ _ _ _ _ _ _ _) (Ev.pos (by omega) (Ev.pos (by omega) (Ev.pos (by rw [bss_length]; omega) (Ev.pos (by omega) ?_))))
  rw [rd_bss, rd_bss, bs_length, bs_length, wA, wB, rd_bs, rd_bs, xor_i, tab_bs j (fun j => co (row A i) j + co (row B i) j), wrap_succ (by omega)]
  refine Ev.pos (by omega) (Ev.pos (by rw [bss_length]; omega) (Ev.pos (by omega) (Ev.pos (by rw [bs_length, tab_length]; omega) ?_)))
  exact ih (j + 1) (by omega)
theorem sums_l0 (A B : List (List G)) (k : Nat) (h0 : 0 < A.length) (hA : A.length ≤ 8) (hB : B.length = A.length) (h1 : 1 ≤ k) (hk : k ≤ 6) (d : Nat) : ∀ i : Nat, i + d = A.length →
 (∀ t, t < i → (row A t).length = (row A 0).length ∧ (row B t).length = (row A 0).length) → (0 < i → (row A 0).length ≤ 40) →
 Ev (fun f => footlockerlaw23_StripeSums.l0 f (bss A) (bss B) (k : Int) (bss (sums A B (row A 0).length i)) (A.length : Int) (i : Int)) true := by
 induction d with
 | zero =>
  intro i hi hw h40
  obtain rfl : i = A.length := by omega
  exact sums_end A B k (row A 0).length h0 hA hB h1 hk (h40 h0) (fun t ht => (hw t ht).1) (fun t ht => (hw t (by omega)).2)
 | succ d ih =>
  intro i hi hw h40
  have out : Ev (fun f => footlockerlaw23_StripeSums.j2 f (bss A) (bss B) (k : Int) (bss (sums A B (row A 0).length i)) (i : Int) (A.length : Int) (i : Int) true) true :=
   Ev.step (fun k => footlockerlaw23_StripeSums.j2.eq_2 _ _ _ _ _ _ _ _ _) (Ev.pos rfl (Ev.now _))
  refine Ev.step (fun k => footlockerlaw23_StripeSums.l0.eq_2 _ _ _ _ _ _ _) (Ev.pos (by omega) (Ev.pos (by omega) (Ev.pos (by rw [bss_length]; omega) ?_)))
  rw [rd_bss, rd_bss, rd_bss0, bs_length, bs_length, bs_length]
  by_cases c1 : ((row A i).length : Int) > 40
  ·exact Ev.pos c1 out
  refine Ev.neg c1 (Ev.pos (by rw [bss_length]; omega) ?_)
  by_cases c2 : (row A i).length = (row A 0).length
  ·refine Ev.pos (by omega) (Ev.pos (by rw [bss_length]; omega) ?_)
   by_cases c3 : (row B i).length = (row A 0).length
   ·rw [show (((row B i).length : Int) != ((row A 0).length : Int)) = false by rw [c3]; simp]
    refine Ev.step (fun k => footlockerlaw23_StripeSums.j2.eq_2 _ _ _ _ _ _ _ _ _) (Ev.neg (by simp) (Ev.pos (by omega) (Ev.pos (by rw [bss_length]; omega) ?_)))
    rw [rd_bss, bs_length, c2]
    refine sums_l1 A B k (row A 0).length i _ hA hB (by omega) (by omega) c2 c3 (by rw [bss_length, sums_length]; omega) ?_ (row A 0).length 0 (by omega)
    have e : bss (sums A B (row A 0).length i) ++ [bs (tab (row A 0).length (fun j => co (row A i) j + co (row B i) j))] = bss (sums A B (row A 0).length (i + 1)) := by
     rw [bss_snoc, sums, sums, tabR_succ]
    rw [e, wrap_succ (by omega)]
    refine ih (i + 1) (by omega) (fun t ht => ?_) (fun _ => by omega)
    by_cases ht2 : t < i
    ·exact hw t ht2
    ·obtain rfl : t = i := by omega
     exact ⟨c2, c3⟩
   ·rw [show (((row B i).length : Int) != ((row A 0).length : Int)) = true by simp; omega]
    exact out
  ·exact Ev.neg (by omega) out
theorem StripeSums : footlockerlaw23_StripeSums.Pure := by
 rintro l0 l1 k ⟨_, h0⟩ ⟨_, h1⟩ _
 obtain ⟨A, rfl⟩ := rows_in l0 (fun y hy => (h0 y hy).2)
 obtain ⟨B, rfl⟩ := rows_in l1 (fun y hy => (h1 y hy).2)
 apply Ev.rounds
 have out : Ev (fun f => footlockerlaw23_StripeSums.j0 f (bss A) (bss B) k true) true := Ev.step (fun k => footlockerlaw23_StripeSums.j0.eq_2 _ _ _ _ _) (Ev.pos rfl (Ev.now _))
 refine Ev.congr (fun k => footlockerlaw23_StripeSums.f.eq_1 _ _ _ _) (Ev.bind alive_ev (Ev.pos rfl ?_))
 rw [bss_length, bss_length]
 by_cases c1 : (A.length : Int) = 0
 ·exact Ev.pos c1 out
 refine Ev.neg c1 ?_
 by_cases c2 : (A.length : Int) > 8
 ·exact Ev.pos c2 out
 refine Ev.neg c2 ?_
 by_cases c3 : (B.length : Int) = (A.length : Int)
 ·refine Ev.pos c3 ?_
  by_cases c4 : k < 1
  ·exact Ev.pos c4 out
  refine Ev.neg c4 ?_
  by_cases c5 : k > 6
  ·rw [decide_eq_true c5]
   exact out
  ·rw [decide_eq_false c5]
   obtain ⟨m, rfl⟩ : ∃ m : Nat, k = (m : Int) := ⟨k.toNat, by omega⟩
   refine Ev.step (fun k => footlockerlaw23_StripeSums.j0.eq_2 _ _ _ _ _) (Ev.neg (by simp) ?_)
   rw [bss_length]
   exact sums_l0 A B m (by omega) (by omega) (by omega) (by omega) (by omega) A.length 0 (by omega) (fun t ht => absurd ht (Nat.not_lt_zero _)) (fun h => absurd h (Nat.lt_irrefl _))
 ·exact Ev.neg c3 out
end Go.Proofs.Ytcdmgppjhdpgkaa.Pure
namespace Go.Proofs.Ytcdmgppjhdpgkaa.Q
open Go Go.RowKit Go.ChangeShapes Go.WideShapes Go.Proofs.YtcdmgppjhdpgkaaW.PrintWords
set_option linter.unusedVariables false
set_option linter.unusedSimpArgs false
def Opens {H : Type} (enc : TypeId × Value → H) (P : Program) (W : World) (base : Nat) (t : TypeId) {α : Type} (d : Kd α) (wf : α → Prop) : Prop :=
 ∀ (spare : Nat → Bool) (held : Bool) (fuel : Nat) (cs : List Value) (x : DataW H × List MemPlace), DataW.trod enc P W base spare held fuel t cs = some x → ∃ v : α, d.K W v cs ∧ wf v
section
variable {H : Type} {enc : TypeId × Value → H} {P : Program} {W : World} {base : Nat}
theorem opens_int {t : TypeId} {k : IntKind} (ht : P.underlying t = some (.int k)) : Opens enc P W base t (Kd.int k) (fun n => (Lit.int k n).wf = true) := by
 intro spare held fuel cs x h
 obtain ⟨n, rfl, _, hw⟩ := DataW.trod_int ht h
 exact ⟨n, rfl, hw⟩
theorem mapM_get {β γ : Type} {f : β → Option γ} : ∀ {l : List β} {cs : List γ}, l.mapM f = some cs → cs.length = l.length ∧ ∀ (i : Nat) (b : β), l[i]? = some b → f b = cs[i]? := by
 intro l
 induction l with
 | nil =>
  intro cs h
  simp at h
  subst h
  exact ⟨rfl, fun i b hb => by simp at hb⟩
 | cons a l ih =>
  intro cs h
  rw [List.mapM_cons] at h
  cases hf : f a with
  | none => simp [hf] at h
  | some y =>
   cases hm : l.mapM f with
   | none => simp [hf, hm] at h
   | some ys =>
    simp [hf, hm] at h
    subst h
    obtain ⟨h1, h2⟩ := ih hm
    refine ⟨by simp [h1], fun i b hb => ?_⟩
    cases i with
    | zero =>
     simp at hb
     subst hb
     simpa using hf
    | succ i =>
     simp at hb
     simpa using h2 i b hb
theorem cells_of {a : Addr} {n : Nat} {cs : List Value} (h : W.cells? base a n = some cs) : cs.length = n ∧ ∀ (i : Nat) (u : Value), cs[i]? = some u → W.cell? (a.add i) = some u := by
 unfold World.cells? at h
 split at h
 ·obtain ⟨h1, h2⟩ := mapM_get h
  rw [List.length_range] at h1
  refine ⟨h1, fun i u hu => ?_⟩
  have hi : i < n := by
   have := (List.getElem?_eq_some_iff.1 hu).1
   omega
  rw [h2 i i (by rw [List.getElem?_range hi]), hu]
 ·cases h
theorem opens_slice {t e : TypeId} {α : Type} {d : Kd α} {wf : α → Prop} (ht : P.underlying t = some (.slice e)) (hc : P.cellsOf e = d.sz) (hm : maxLen ≤ 9223372036854775807) (ho : Opens enc P W base e d wf) [Inhabited α] :
 Opens enc P W base t (Kd.slice e d) (fun xs => xs.length ≤ maxLen ∧ ∀ x ∈ xs, wf x) := by
 intro spare held fuel cs x h
 rcases Deep.open_slice ht h with ⟨rfl, _⟩ | ⟨a, len, cap, m, n, D, Pl, rfl, hb, hl, hcm, hmm, rfl, hx⟩
 ·exact ⟨[], ⟨none, 0, rfl, Nat.le_refl _, rfl, Nat.zero_le _, fun h => absurd h (by simp)⟩, Nat.zero_le _, fun x hx => by simp at hx⟩
 ·have hlm : len ≤ m := by rw [hmm]; split <;> omega
  obtain ⟨F, hF⟩ := Deep.choose_lt (α := α) (n := len) (p := fun i v => ∃ cs', d.K W v cs' ∧ cs'.length = d.sz ∧ (∀ j u, cs'[j]? = some u → W.cell? (a.add (i * d.sz + j)) = some u) ∧ wf v) (fun i hi => by
   obtain ⟨cs', h1, h2⟩ := hx i (by omega)
   obtain ⟨v, hv, hw⟩ := ho spare held n cs' _ h2
   rw [hc] at h1
   obtain ⟨h3, h4⟩ := cells_of h1
   refine ⟨v, cs', hv, h3, fun j u hu => ?_, hw⟩
   have := h4 j u hu
   rwa [Deep.add_add] at this)
  refine ⟨(List.range len).map F, ⟨some a, cap, by simp, by simpa using hl, by simp, by simp; omega, fun _ => ⟨a, rfl, fun j p hj => ?_⟩⟩, by simp; omega, fun x hx => ?_⟩
  ·have hjl : j < len := by
    have := (List.getElem?_eq_some_iff.1 hj).1
    simpa using this
   rw [List.getElem?_map, List.getElem?_range hjl] at hj
   simp at hj
   subst hj
   obtain ⟨cs', h1, h2, h3, _⟩ := hF j hjl
   exact ⟨cs', h2, h1, h3⟩
  ·rw [List.mem_map] at hx
   obtain ⟨i, hi, rfl⟩ := hx
   obtain ⟨_, _, _, _, hw⟩ := hF i (List.mem_range.1 hi)
   exact hw
theorem slice_arg {e : TypeId} {α : Type} {d : Kd α} {xs : List α} {a : Option Addr} {len cap : Nat} (h : (Kd.slice e d).K W xs (Value.cells (.slice a len cap)).toList) : len = xs.length ∧ xs.length ≤ cap ∧ d.C W a xs.length xs := by
 obtain ⟨A, c, hcs, hl, hC⟩ := h
 simp [Value.cells] at hcs
 obtain ⟨rfl, rfl, rfl⟩ := hcs
 exact ⟨rfl, hl, hC⟩
end
end Go.Proofs.Ytcdmgppjhdpgkaa.Q
