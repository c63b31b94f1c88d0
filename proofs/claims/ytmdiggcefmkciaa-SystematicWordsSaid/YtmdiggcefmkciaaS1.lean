/- Codewords: the program's words of a code, and the document's, are values of the polynomial through the first bytes. Conditions: as each theorem states them. -/
import Derived.Test.YtmdiggcefmkciaaP3
import Derived.Test.YtmdiggcefmkciaaPx3
import Derived.Test.YtmdiggcefmkciaaPx4
import Derived.Test.YtmdiggcefmkciaaPx5
namespace Go.Proofs.Ytmdiggcefmkciaa.Al
open Go Go.RowKit Go.Proofs.YtmdiggcefmkciaaW.PrintWords Go.Proofs.YtmdiggcefmkciaaW.PrintMore Go.Proofs.Ytmdiggcefmkciaa.P
set_option linter.unusedVariables false
set_option linter.unusedSimpArgs false

/-- place i -/
def pl (i : Nat) : G := G.of ((i : Int) % 256)
theorem pl_i (i : Nat) : (i : Int) % 256 = (pl i).i := by rw [pl, i_of (by omega) (by omega)]
theorem pl_ne {a b : Nat} (hab : a < b) (hb : b < 256) : pl a ≠ pl b := by
  intro e
  have := congrArg G.i e
  rw [← pl_i, ← pl_i] at this
  omega
def places (n : Nat) : List G := tab n pl
theorem places_length (n : Nat) : (places n).length = n := tab_length n pl
theorem co_places {n i : Nat} (h : i < n) : co (places n) i = pl i := by rw [places, co_tab, if_pos h]
theorem places_nodup {n : Nat} (hn : n ≤ 256) : (places n).Nodup := by
  rw [nodup_co]
  intro a b hab hb
  rw [places_length] at hb
  rw [co_places (by omega), co_places hb]
  exact pl_ne hab (by omega)
theorem places_l0 (m : Nat) (hm : m < 100000000000) (d : Nat) : ∀ n : Nat, n + d = m → Ev (fun k => systematic_places.l0 k (bs (places n)) (m : Int) (n : Int)) (bs (places m)) := by
  induction d with
  | zero =>
    intro n hn
    obtain rfl : n = m := by omega
    exact Ev.step (fun k => systematic_places.l0.eq_2 _ _ _ _) (Ev.neg (by omega) (Ev.now _))
  | succ d ih =>
    intro n hn
    refine Ev.step (fun k => systematic_places.l0.eq_2 _ _ _ _) (Ev.pos (by omega) (Ev.pos (by rw [bs_length, places_length]; omega) ?_))
    rw [pl_i, places, tab_bs n pl, wrap_succ (by omega)]
    exact ih (n + 1) (by omega)
theorem places_ev (m : Nat) (hm : m < 100000000000) : Ev (fun k => systematic_places.f k (m : Int)) (bs (places m)) :=
  Ev.congr (fun k => systematic_places.f.eq_1 _ _) (places_l0 m hm m 0 (by omega))

/-- the polynomial through the first bytes -/
def gen (d : List G) : List G := interp (places d.length) d
theorem gen_facts {d : List G} (hd : d.length ≤ 256) : (gen d).length ≤ d.length ∧ trim (gen d) = gen d ∧ ∀ j, j < d.length → ev (gen d) (pl j) = co d j := by
  obtain ⟨h1, h2, h3⟩ := interp_facts (ys := d) (places_nodup hd)
  rw [places_length] at h1 h3
  refine ⟨h1, h2, fun j hj => ?_⟩
  have := h3 j hj
  rwa [co_places hj] at this
/-- A polynomial of so few coefficients that has these values is it. -/
theorem gen_unique {d p : List G} (hd : d.length ≤ 256) (hp : p.length ≤ d.length) (h : ∀ j, j < d.length → ev p (pl j) = co d j) : trim p = gen d :=
  interp_unique (places_nodup hd) (by rw [places_length]; exact hp) (fun j hj => by
    rw [places_length] at hj
    rw [co_places hj]
    exact h j hj)
/-- all values of a polynomial -/
def vals (p : List G) (n : Nat) : List G := tab n (fun i => ev p (pl i))
theorem vals_length (p : List G) (n : Nat) : (vals p n).length = n := tab_length n _
theorem co_vals {p : List G} {n i : Nat} (h : i < n) : co (vals p n) i = ev p (pl i) := by rw [vals, co_tab, if_pos h]
theorem through_places (d : List G) (hd : d.length ≤ 256) : Ev (fun k => poly_Through.f k (bs (places d.length)) (bs d)) (bs (gen d), 0) :=
  through_ev _ _ (places_nodup hd) (places_length _) (by rw [places_length]; omega)
/-- the bytes that follow -/
def more (d : List G) (k : Nat) : List G := tab k (fun i => ev (gen d) (pl (d.length + i)))
theorem more_length (d : List G) (k : Nat) : (more d k).length = k := tab_length k _
/-- the codeword of data -/
def word (d : List G) (k : Nat) : List G := vals (gen d) (d.length + k)
theorem word_length (d : List G) (k : Nat) : (word d k).length = d.length + k := vals_length _ _
theorem word_eq (d : List G) (k : Nat) (hd : d.length ≤ 256) : d ++ more d k = word d k := by
  apply ext_co
  · rw [List.length_append, more_length, word_length]
  · intro i hi
    rw [List.length_append, more_length] at hi
    rw [co_append, word, co_vals hi]
    by_cases h : i < d.length
    · rw [if_pos h, (gen_facts hd).2.2 i h]
    · rw [if_neg h, more, co_tab, if_pos (by omega), show d.length + (i - d.length) = i by omega]
theorem encode_l0 (d : List G) (k : Nat) (hd : d.length + k ≤ 255) (e : Nat) : ∀ n : Nat, n + e = k →
    Ev (fun f => systematic_Encode.l0 f (d.length : Int) (bs (gen d)) (bs (more d n)) (k : Int) (n : Int)) (bs (more d k), 0) := by
  have hg := (gen_facts (d := d) (by omega)).1
  induction e with
  | zero =>
    intro n hn
    obtain rfl : n = k := by omega
    exact Ev.step (fun k => systematic_Encode.l0.eq_2 _ _ _ _ _ _) (Ev.neg (by omega) (Ev.now _))
  | succ e ih =>
    intro n hn
    refine Ev.step (fun k => systematic_Encode.l0.eq_2 _ _ _ _ _ _) (Ev.pos (by omega) ?_)
    have hw : wrap64 ((d.length : Int) + (n : Int)) = ((d.length + n : Nat) : Int) := by rw [wrap_sm (by omega) (by omega)]; omega
    rw [hw, pl_i]
    refine Ev.bind (eval_ev _ _ (by omega)) (Ev.pos (by rw [bs_length, more_length]; omega) ?_)
    rw [more, tab_bs n (fun i => ev (gen d) (pl (d.length + i))), wrap_succ (by omega)]
    exact ih (n + 1) (by omega)
theorem encode_ev (d : List G) (k : Nat) (h0 : 0 < d.length) (hd : d.length + k ≤ 255) : Ev (fun f => systematic_Encode.f f (bs d) (k : Int)) (bs (more d k), 0) := by
  refine Ev.congr (fun k => systematic_Encode.f.eq_1 _ _ _) (Ev.neg (by rw [bs_length]; omega) ?_)
  rw [decide_eq_false (by omega)]
  refine Ev.step (fun k => systematic_Encode.j0.eq_2 _ _ _ _ _) (Ev.neg (by simp) (Ev.neg (by omega) (Ev.neg ?_ ?_)))
  · rw [bs_length, wrap_sm (by omega) (by omega)]; omega
  · rw [bs_length]
    exact Ev.bind (places_ev _ (by omega)) (Ev.bind (through_places d (by omega)) (encode_l0 d k hd k 0 (by omega)))
theorem encode_arg (d : List G) (k : Int) (h : d.length = 0 ∨ k < 0) : Ev (fun f => systematic_Encode.f f (bs d) k) ([], 1) := by
  have hj : Ev (fun f => systematic_Encode.j0 f (bs d) k ((bs d).length : Int) true) ([], 1) := Ev.step (fun k => systematic_Encode.j0.eq_2 _ _ _ _ _) (Ev.pos rfl (Ev.now _))
  refine Ev.congr (fun k => systematic_Encode.f.eq_1 _ _ _) ?_
  by_cases h0 : ((bs d).length : Int) = 0
  · exact Ev.pos h0 hj
  · refine Ev.neg h0 ?_
    rw [decide_eq_true (h.resolve_left (fun e => h0 (by rw [bs_length]; omega)))]
    exact hj
theorem encode_many (d : List G) (k : Int) (h0 : d.length ≠ 0) (hk : 0 ≤ k) (hk1 : k ≤ 9223372036854775807) (hd : d.length < 1000000) (h : 255 < d.length + k) : Ev (fun f => systematic_Encode.f f (bs d) k) ([], 3) := by
  refine Ev.congr (fun k => systematic_Encode.f.eq_1 _ _ _) (Ev.neg (by rw [bs_length]; omega) ?_)
  rw [decide_eq_false (by omega)]
  refine Ev.step (fun k => systematic_Encode.j0.eq_2 _ _ _ _ _) (Ev.neg (by simp) ?_)
  by_cases h1 : k > 255
  · exact Ev.pos h1 (Ev.now _)
  · refine Ev.neg h1 (Ev.pos ?_ (Ev.now _))
    rw [bs_length, wrap_sm (by omega) (by omega)]
    omega

/-! is a word a codeword? -/
def May (w : List G) (n : Int) : Prop := n ≥ 1 ∧ n ≤ w.length ∧ w.length ≤ 255
instance (w : List G) (n : Int) : Decidable (May w n) := inferInstanceAs (Decidable (_ ∧ _ ∧ _))
theorem may_some (w : List G) (n : Int) : systematic_may.f (bs w) n = some (decide (May w n)) := by
  unfold systematic_may.f
  rw [bs_length]
  by_cases h : May w n
  · rw [decide_eq_true h]
    obtain ⟨h1, h2, h3⟩ := h
    rw [if_pos h1, if_pos h2, decide_eq_true (by omega)]
  · rw [decide_eq_false h]
    by_cases h1 : n ≥ 1
    · rw [if_pos h1]
      by_cases h2 : n ≤ (w.length : Int)
      · rw [if_pos h2, decide_eq_false (fun h3 => h ⟨h1, h2, by omega⟩)]
      · rw [if_neg h2]
    · rw [if_neg h1]
/-- w is a codeword of n bytes: some polynomial of n coefficients has its bytes as values -/
def IsWord (w : List G) (n : Nat) : Prop := ∃ p : List G, p.length ≤ n ∧ ∀ j, j < w.length → ev p (pl j) = co w j
theorem isWord_iff {w : List G} {n : Nat} (hw : w.length ≤ 255) (hn : n ≤ w.length) : IsWord w n ↔ (gen w).length ≤ n := by
  constructor
  · rintro ⟨p, hp, h⟩
    rw [← gen_unique (d := w) (by omega) (by omega) h]
    have := trim_length_le p
    omega
  · intro h
    exact ⟨gen w, h, (gen_facts (by omega)).2.2⟩
theorem is_ev (w : List G) (n : Nat) (h1 : 1 ≤ n) (hn : n ≤ w.length) (hw : w.length ≤ 255) [Decidable (IsWord w n)] : Ev (fun f => systematic_Is.f f (bs w) (n : Int)) (decide (IsWord w n)) := by
  refine Ev.congr (fun k => systematic_Is.f.eq_1 _ _ _) ?_
  rw [may_some, decide_eq_true (show May w (n : Int) from ⟨by omega, by omega, hw⟩), bs_length]
  have hg := gen_facts (d := w) (by omega)
  refine Ev.somef (Ev.pos rfl (Ev.bind (places_ev _ (by omega)) (Ev.bind (through_places w (by omega)) (Ev.bind (degree_ev _ (by omega)) ?_))))
  rw [hg.2.1]
  have : decide ((((gen w).length : Int) - 1) < (n : Int)) = decide (IsWord w n) := by
    rw [decide_eq_decide, isWord_iff hw hn]
    omega
  rw [this]
  exact Ev.now _
theorem is_no (w : List G) (n : Int) (h : ¬ May w n) : Ev (fun f => systematic_Is.f f (bs w) n) false := by
  refine Ev.congr (fun k => systematic_Is.f.eq_1 _ _ _) ?_
  rw [may_some, decide_eq_false h]
  exact Ev.somef (Ev.neg (by simp) (Ev.now _))
theorem is_true (w : List G) (n : Nat) (h1 : 1 ≤ n) (hn : n ≤ w.length) (hw : w.length ≤ 255) (h : IsWord w n) : Ev (fun f => systematic_Is.f f (bs w) (n : Int)) true := by
  haveI : Decidable (IsWord w n) := .isTrue h
  exact evc (is_ev w n h1 hn hw) (decide_eq_true h)
theorem word_isWord (d : List G) (k : Nat) (hd : d.length ≤ 256) : IsWord (word d k) d.length :=
  ⟨gen d, (gen_facts hd).1, fun j hj => by rw [word_length] at hj; rw [word, co_vals hj]⟩
theorem isWord_take {w : List G} {n m : Nat} (h : IsWord w n) : IsWord (w.take m) n := by
  obtain ⟨p, hp, h⟩ := h
  refine ⟨p, hp, fun j hj => ?_⟩
  rw [List.length_take] at hj
  rw [co_take, if_pos (by omega)]
  exact h j (by omega)
theorem isWord_mono {w : List G} {n m : Nat} (hnm : n ≤ m) (h : IsWord w n) : IsWord w m := by
  obtain ⟨p, hp, h⟩ := h
  exact ⟨p, by omega, h⟩
/-- A codeword is what its first bytes say. -/
theorem isWord_word {w : List G} {n : Nat} (hn : n ≤ w.length) (hw : w.length ≤ 255) (h : IsWord w n) : w = word (w.take n) (w.length - n) := by
  obtain ⟨p, hp, h⟩ := h
  have hl : (w.take n).length = n := by rw [List.length_take]; omega
  have hg : trim p = gen (w.take n) := gen_unique (by omega) (by omega) (fun j hj => by
    rw [hl] at hj
    rw [co_take, if_pos hj]
    exact h j (by omega))
  apply ext_co
  · rw [word_length, hl]; omega
  · intro i hi
    rw [word, co_vals (by rw [hl]; omega), ← hg, ev_trim, h i hi]

/-! a byte of the codeword -/
theorem at_ev (w : List G) (n i : Nat) (h1 : 1 ≤ n) (hn : n ≤ w.length) (hw : w.length ≤ 255) (hi : i < 255) : Ev (fun f => systematic_At.f f (bs w) (n : Int) (i : Int)) ((ev (gen (w.take n)) (pl i)).i, true) := by
  refine Ev.congr (fun k => systematic_At.f.eq_1 _ _ _ _) ?_
  rw [may_some, decide_eq_true (show May w (n : Int) from ⟨by omega, by omega, hw⟩)]
  refine Ev.somef (Ev.pos rfl (Ev.neg (by omega) ?_))
  rw [decide_eq_false (by omega)]
  have hl : (w.take n).length = n := by rw [List.length_take]; omega
  have hg := gen_facts (d := w.take n) (by omega)
  refine Ev.step (fun k => systematic_At.j0.eq_2 _ _ _ _ _) (Ev.neg (by simp) (Ev.bind (places_ev _ (by omega)) (Ev.pos (by omega) (Ev.pos (by rw [bs_length]; omega) ?_))))
  rw [Int.toNat_natCast, bs_take, pl_i]
  have ht := through_places (w.take n) (by omega)
  rw [hl] at ht
  exact Ev.bind ht (Ev.bind (eval_ev _ _ (by omega)) (Ev.now _))
theorem at_no (w : List G) (n i : Int) (h : ¬ May w n ∨ i < 0 ∨ i ≥ 255) : Ev (fun f => systematic_At.f f (bs w) n i) (0, false) := by
  have hj : Ev (fun f => systematic_At.j0 f (bs w) n i true) (0, false) := Ev.step (fun k => systematic_At.j0.eq_2 _ _ _ _ _) (Ev.pos rfl (Ev.now _))
  refine Ev.congr (fun k => systematic_At.f.eq_1 _ _ _ _) ?_
  rw [may_some]
  refine Ev.somef ?_
  by_cases hm : May w n
  · refine Ev.pos (decide_eq_true hm) ?_
    by_cases h0 : i < 0
    · exact Ev.pos h0 hj
    · refine Ev.neg h0 ?_
      rw [decide_eq_true ((h.resolve_left (fun e => e hm)).resolve_left h0)]
      exact hj
  · exact Ev.neg (by simpa using hm) hj

/-! filling -/
/-- the places of the first n bytes that are there -/
def firstN (there : List Bool) (n : Nat) : Nat → List Nat
  | 0 => []
  | i + 1 => let l := firstN there n i; if there.getD i false = true ∧ l.length < n then l ++ [i] else l
theorem firstN_mem {there : List Bool} {n : Nat} : ∀ {i x : Nat}, x ∈ firstN there n i → x < i ∧ there.getD x false = true := by
  intro i
  induction i with
  | zero => intro x hx; simp [firstN] at hx
  | succ i ih =>
    intro x hx
    simp only [firstN] at hx
    split at hx
    · rename_i hc
      rw [List.mem_append] at hx
      rcases hx with hx | hx
      · have := ih hx
        exact ⟨by omega, this.2⟩
      · simp at hx
        subst hx
        exact ⟨by omega, hc.1⟩
    · have := ih hx
      exact ⟨by omega, this.2⟩
theorem firstN_sorted (there : List Bool) (n : Nat) : ∀ i, (firstN there n i).Pairwise (· < ·) := by
  intro i
  induction i with
  | zero => exact List.Pairwise.nil
  | succ i ih =>
    simp only [firstN]
    split
    · rw [List.pairwise_append]
      refine ⟨ih, List.pairwise_singleton _ _, fun a ha b hb => ?_⟩
      simp at hb
      subst hb
      exact (firstN_mem ha).1
    · exact ih
theorem firstN_length (there : List Bool) (n : Nat) : ∀ i, (firstN there n i).length ≤ n := by
  intro i
  induction i with
  | zero => simp [firstN]
  | succ i ih =>
    simp only [firstN]
    split
    · rw [List.length_append, List.length_singleton]; omega
    · exact ih
/-- how many are there -/
def count (there : List Bool) : Nat → Nat
  | 0 => 0
  | i + 1 => count there i + if there.getD i false = true then 1 else 0
theorem firstN_count (there : List Bool) (n : Nat) : ∀ i, (firstN there n i).length = min n (count there i) := by
  intro i
  induction i with
  | zero => simp [firstN, count]
  | succ i ih =>
    simp only [firstN, count]
    by_cases h : there.getD i false = true
    · by_cases h2 : (firstN there n i).length < n
      · rw [if_pos ⟨h, h2⟩, if_pos h, List.length_append, List.length_singleton]; omega
      · rw [if_neg (fun e => h2 e.2), if_pos h]; omega
    · rw [if_neg (fun e => h e.1), if_neg h]; omega
def fxs (there : List Bool) (n i : Nat) : List G := (firstN there n i).map pl
def fys (w : List G) (there : List Bool) (n i : Nat) : List G := (firstN there n i).map (co w)
theorem fxs_length (there : List Bool) (n i : Nat) : (fxs there n i).length = (firstN there n i).length := List.length_map _
theorem fys_length (w : List G) (there : List Bool) (n i : Nat) : (fys w there n i).length = (firstN there n i).length := List.length_map _
theorem fxs_nodup (there : List Bool) (n i : Nat) (hi : i ≤ 256) : (fxs there n i).Nodup := by
  rw [fxs, List.Nodup, List.pairwise_map]
  exact (firstN_sorted there n i).imp_of_mem (fun {a b} ha hb hab => pl_ne hab (by have := (firstN_mem hb).1; omega))
/-- the filled word -/
def filled (w : List G) (there : List Bool) (n : Nat) : List G := vals (interp (fxs there n w.length) (fys w there n w.length)) w.length
theorem rdOf_nat (l : List Bool) (i : Nat) : rdOf false l (i : Int) = l.getD i false := by simp [rdOf]
theorem fill_l1 (p : List G) (m : Nat) (hp : p.length ≤ 300) (hm : m ≤ 300) (d : Nat) : ∀ (o : List G) (n : Nat), n + d = m → o.length = m → (∀ j, j < n → co o j = ev p (pl j)) →
    Ev (fun f => systematic_Fill.l1 f (bs p) (bs o) (m : Int) (n : Int)) (bs (vals p m), 0) := by
  induction d with
  | zero =>
    intro o n hn ho h
    refine Ev.step (fun k => systematic_Fill.l1.eq_2 _ _ _ _ _) (Ev.neg (by omega) ?_)
    rw [show o = vals p m from ext_co (by rw [ho, vals_length]) (fun j hj => by rw [h j (by omega), co_vals (by omega)])]
    exact Ev.now _
  | succ d ih =>
    intro o n hn ho h
    refine Ev.step (fun k => systematic_Fill.l1.eq_2 _ _ _ _ _) (Ev.pos (by omega) ?_)
    rw [pl_i]
    refine Ev.bind (eval_ev _ _ (by omega)) (Ev.pos (by omega) (Ev.pos (by rw [bs_length]; omega) ?_))
    rw [Int.toNat_natCast, bs_set, wrap_succ (by omega)]
    refine ih _ (n + 1) (by omega) (by rw [List.length_set]; exact ho) (fun j hj => ?_)
    rw [co_set _ _ _ _ (by omega)]
    by_cases e : j = n
    · rw [if_pos e, e]
    · rw [if_neg e, h j (by omega)]
theorem map_snoc_i (f : Nat → G) (l : List Nat) (i : Nat) : bs (l.map f) ++ [(f i).i] = bs ((l ++ [i]).map f) := by
  rw [List.map_append, bs_append]; rfl
theorem fill_l0 (w : List G) (there : List Bool) (n : Nat) (hw : w.length ≤ 255) (hl : w.length = there.length) (r : List Int × Int)
    (hr : r = if (firstN there n w.length).length < n then ([], 52) else (bs (filled w there n), 0)) (d : Nat) : ∀ i : Nat, i + d = w.length →
    Ev (fun f => systematic_Fill.l0 f (bs w) (n : Int) (bs (fxs there n i)) (bs (fys w there n i)) there (there.length : Int) (i : Int)) r := by
  induction d with
  | zero =>
    intro i hi
    obtain rfl : i = w.length := by omega
    have hf := firstN_length there n w.length
    have hc : (firstN there n w.length).length ≤ w.length := by
      rw [firstN_count]
      have : ∀ m, count there m ≤ m := by
        intro m
        induction m with
        | zero => exact Nat.le_refl _
        | succ m ih => simp only [count]; split <;> omega
      have := this w.length
      omega
    refine Ev.step (fun k => systematic_Fill.l0.eq_2 _ _ _ _ _ _ _ _) (Ev.neg (by omega) ?_)
    rw [bs_length, fxs_length]
    by_cases h : (firstN there n w.length).length < n
    · rw [if_pos h] at hr
      subst hr
      exact Ev.pos (by omega) (Ev.now _)
    · rw [if_neg h] at hr
      subst hr
      have hd := fxs_nodup there n w.length (by omega)
      have hif := (interp_facts (ys := fys w there n w.length) hd).1
      rw [fxs_length] at hif
      refine Ev.neg (by omega) (Ev.bind (through_ev _ _ hd (by rw [fxs_length, fys_length]) (by rw [fxs_length]; omega)) (Ev.pos (by omega) (Ev.pos (by rw [bs_length, Int.toNat_natCast]; omega) (Ev.somef ?_))))
      dsimp only
      rw [List.length_replicate, bs_length, Int.toNat_natCast, bs_replicate]
      exact fill_l1 _ w.length (by omega) (by omega) w.length _ 0 (by omega) List.length_replicate (fun j hj => by omega)
  | succ d ih =>
    intro i hi
    have h := ih (i + 1) (by omega)
    have hf := firstN_length there n i
    refine Ev.step (fun k => systematic_Fill.l0.eq_2 _ _ _ _ _ _ _ _) (Ev.pos (by omega) (Ev.pos (by omega) (Ev.pos (by omega) ?_)))
    rw [rdOf_nat, wrap_succ (by omega), bs_length, fxs_length]
    have hfx : (firstN there n i).length ≤ i := by
      rw [firstN_count]
      have : ∀ m, count there m ≤ m := by
        intro m
        induction m with
        | zero => exact Nat.le_refl _
        | succ m ih => simp only [count]; split <;> omega
      have := this i
      omega
    by_cases ht : there.getD i false = true
    · refine Ev.pos ht ?_
      by_cases hlt : (firstN there n i).length < n
      · have e1 : firstN there n (i + 1) = firstN there n i ++ [i] := by simp only [firstN]; rw [if_pos ⟨ht, hlt⟩]
        refine Ev.pos (by omega) (Ev.somef (Ev.pos (by simp only [bs_length, fxs_length, List.length_singleton]; omega) (Ev.pos (by rw [bs_length]; omega) (Ev.somef (Ev.pos (by simp only [bs_length, fys_length, List.length_singleton]; omega) ?_)))))
        rw [pl_i, rd_bs]
        rw [fxs, fys, e1] at h
        rw [fxs, fys, map_snoc_i, map_snoc_i]
        exact h
      · have e1 : firstN there n (i + 1) = firstN there n i := by simp only [firstN]; rw [if_neg (fun e => hlt e.2)]
        rw [fxs, fys, e1] at h
        exact Ev.neg (by omega) h
    · have e1 : firstN there n (i + 1) = firstN there n i := by simp only [firstN]; rw [if_neg (fun e => ht e.1)]
      rw [fxs, fys, e1] at h
      exact Ev.neg ht h
theorem fill_ev (w : List G) (there : List Bool) (n : Nat) (h1 : 1 ≤ n) (hn : n ≤ w.length) (hw : w.length ≤ 255) (hl : w.length = there.length) :
    Ev (fun f => systematic_Fill.f f (bs w) there (n : Int)) (if (firstN there n w.length).length < n then ([], 52) else (bs (filled w there n), 0)) := by
  refine Ev.congr (fun k => systematic_Fill.f.eq_1 _ _ _ _) (Ev.pos (by rw [bs_length]; omega) ?_)
  rw [may_some, decide_eq_true (show May w (n : Int) from ⟨by omega, by omega, hw⟩)]
  exact Ev.somef (Ev.step (fun k => systematic_Fill.j0.eq_2 _ _ _ _ _) (Ev.neg (by simp) (fill_l0 w there n hw hl _ rfl w.length 0 (by omega))))
theorem fill_no (w : List G) (there : List Bool) (n : Int) (h : w.length ≠ there.length ∨ ¬ May w n) : Ev (fun f => systematic_Fill.f f (bs w) there n) ([], 1) := by
  have hj : Ev (fun f => systematic_Fill.j0 f (bs w) there n true) ([], 1) := Ev.step (fun k => systematic_Fill.j0.eq_2 _ _ _ _ _) (Ev.pos rfl (Ev.now _))
  refine Ev.congr (fun k => systematic_Fill.f.eq_1 _ _ _ _) ?_
  by_cases hl : w.length = there.length
  · refine Ev.pos (by rw [bs_length]; omega) ?_
    rw [may_some, decide_eq_false (h.resolve_left (fun e => e hl))]
    exact Ev.somef hj
  · exact Ev.neg (by rw [bs_length]; omega) hj
/-- A codeword of which enough is there is filled as it was, whatever stands at the other places. -/
theorem filled_word {w v : List G} {there : List Bool} {n : Nat} (hw : w.length ≤ 255) (hv : v.length = w.length) (h : IsWord w n) (hf : ¬ (firstN there n w.length).length < n)
    (hs : ∀ i, i < w.length → there.getD i false = true → co v i = co w i) : filled v there n = w := by
  obtain ⟨p, hp, h⟩ := h
  have hd := fxs_nodup there n w.length (by omega)
  have hfl := firstN_length there n w.length
  have hi : trim p = interp (fxs there n w.length) (fys v there n w.length) := interp_unique hd (by rw [fxs_length]; omega) (fun j hj => by
    rw [fxs_length] at hj
    have e1 : co (fxs there n w.length) j = pl ((firstN there n w.length)[j]) := by rw [co_lt (by rw [fxs_length]; exact hj)]; simp [fxs]
    have e2 : co (fys v there n w.length) j = co v ((firstN there n w.length)[j]) := by rw [co_lt (by rw [fys_length]; exact hj)]; simp [fys]
    obtain ⟨h1, h2⟩ := firstN_mem (List.getElem_mem (l := firstN there n w.length) hj)
    rw [e1, e2, hs _ h1 h2, h _ h1])
  rw [filled, hv, ← hi]
  apply ext_co (vals_length _ _)
  intro i hi2
  rw [vals_length] at hi2
  rw [co_vals hi2, ev_trim, h i hi2]
end Go.Proofs.Ytmdiggcefmkciaa.Al
