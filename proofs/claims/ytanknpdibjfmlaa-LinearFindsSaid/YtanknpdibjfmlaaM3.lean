/- Rows that lie apart: two of them change places; one is replaced; one is lent while another is read. Conditions: as each theorem states them. -/
import Derived.Test.YtanknpdibjfmlaaWApart
import Derived.Test.YtanknpdibjfmlaaWMore
namespace Go.Proofs.Ytanknpdibjfmlaa.Mm
open Go Go.RowKit Go.Proofs.YtanknpdibjfmlaaW.PrintWords
set_option linter.unusedVariables false
set_option linter.unusedSimpArgs false

section
variable {α : Type} {d : Kd α} {e e0 base g n cap : Nat} {ok oki : Nat → Prop} {W w1 : World} {xs : List (List α)} {i : Int} {c : List Value}
/-- A cell of a row of the call's own is written. -/
theorem own_set {cs : List Value} (h : W.ownsRow base e 1 (.slice (some ⟨g, 0, none⟩) n cap) n cs) (i : Nat) (u : Value) :
    (W.setCell ⟨g, i, none⟩ u).ownsRow base e 1 (.slice (some ⟨g, 0, none⟩) n cap) n (cs.set i u) ∧ W.grownBy (W.setCell ⟨g, i, none⟩ u) (some g) := by
  have h' : W.ownsRow base e 1 (.slice (some ⟨g, 0, none⟩) n cap) n (encs id cs) := by simpa [encs] using h
  have := own_store_of (enc := (id : Value → Value)) h' (i : Int) u
  simpa [encs] using this
theorem own_cell {cs : List Value} (h : W.ownsRow base e 1 (.slice (some ⟨g, 0, none⟩) n cap) n cs) (i : Nat) (hi : i < n) : ∃ u, cs[i]? = some u ∧ W.cell? ⟨g, i, none⟩ = some u ∧ W.frozen? ⟨g, i, none⟩ = false := by
  have hl : cs.length = n := by have := h.1; omega
  refine ⟨cs[i]'(by omega), List.getElem?_eq_getElem _, ?_, ?_⟩
  · have := h.cells (g := g) (by simp [Value.ownBlock]) i _ (List.getElem?_eq_getElem (by omega))
    rwa [Go.Proofs.YtanknpdibjfmlaaW.PrintWords.add_plain] at this
  · rcases h.2 with ⟨h', _⟩ | ⟨g', cap', cur, h', _, hh, _⟩
    · cases h'
    · have : g = g' := by injection h' with h'; injection h' with h'; injection h' with h'
      subst this
      simp [World.frozen?, hh]
theorem one_take (cs : List Value) (m : Nat) : (cs.drop (m * 1)).take 1 = (cs[m]?).toList := by
  rw [Nat.mul_one]
  by_cases h : m < cs.length
  · rw [List.getElem?_eq_getElem h, List.drop_eq_getElem_cons h]; rfl
  · rw [List.getElem?_eq_none (by omega), List.drop_eq_nil_of_le (by omega)]; rfl
theorem ne_of {cap' n' : Nat} {k : Nat} (hk : some k ≠ (Value.slice (some ⟨g, 0, none⟩) n' cap').ownBlock) : k ≠ g := fun he => hk (by rw [he]; simp [Value.ownBlock])
/-- What a slice's element says of its one cell. -/
theorem M_one {w : World} {b : Nat} {o : Nat → Prop} {x : List α} {cs : List Value} (h : (Kd.slice e0 d).M w b o x cs) : ∃ v, cs = [v] ∧ d.R e0 w b o v x := h
/-- Two elements change places, by two stores. -/
theorem S_swap (h : (Kd.slice e0 d).S e W base ok (.slice (some ⟨g, 0, none⟩) n cap) xs) (i j : Nat) (hi : i < n) (hj : j < n) {u1 u2 : Value}
    (h1 : W.cell? ⟨g, i, none⟩ = some u1) (h2 : W.cell? ⟨g, j, none⟩ = some u2) :
    (Kd.slice e0 d).S e ((W.setCell ⟨g, i, none⟩ u2).setCell ⟨g, j, none⟩ u1) base ok (.slice (some ⟨g, 0, none⟩) n cap) ((xs.set i (xs.getD j [])).set j (xs.getD i [])) := by
  obtain ⟨f, hok0, inner, ho, hr⟩ := h
  have hn : n = xs.length := by
    have := ho.2
    rcases this with ⟨h', _⟩ | ⟨g', cap', cur, h', _⟩
    · cases h'
    · injection h' with _ h' _; rw [List.length_zipIdx] at h'; exact h'
  rw [List.length_zipIdx] at ho
  rw [← hn] at ho
  have hli : inner.length = n := by have := ho.1; rw [show (Kd.tag f (Kd.slice e0 d)).sz = 1 from rfl] at this; omega
  have ho1 : W.ownsRow base e 1 (.slice (some ⟨g, 0, none⟩) n cap) n inner := ho
  obtain ⟨v1, a1, b1, _⟩ := own_cell ho1 i hi
  obtain ⟨v2, a2, b2, _⟩ := own_cell ho1 j hj
  obtain rfl : v1 = u1 := Option.some.inj (b1.symm.trans h1)
  obtain rfl : v2 = u2 := Option.some.inj (b2.symm.trans h2)
  obtain ⟨o1, _⟩ := own_set ho1 i v2
  obtain ⟨o2, _⟩ := own_set o1 j v1
  have move : ∀ (k : Nat), k ≠ g → ((W.setCell ⟨g, i, none⟩ v2).setCell ⟨g, j, none⟩ v1).heap[k]? = W.heap[k]? := fun k hk => by
    rw [Below.heap_setCell _ ⟨g, j, none⟩ v1 k hk, Below.heap_setCell _ ⟨g, i, none⟩ v2 k hk]
  have hM : ∀ (m : Nat) (hm : m < xs.length), (Kd.slice e0 d).M W base (fun k => (ok k ∧ some k ≠ (Value.slice (some ⟨g, 0, none⟩) n cap).ownBlock) ∧ f k = m) (xs[m]) ((inner.drop (m * 1)).take 1) := fun m hm => hr.2 m (xs[m], m) (Kd.zip_at (List.getElem?_eq_getElem hm))
  refine ⟨fun k => if f k = i then j else if f k = j then i else f k, fun k hk => hok0 k hk, (inner.set i v2).set j v1, ?_, ?_, ?_⟩
  · rw [List.length_zipIdx, List.length_set, List.length_set, ← hn]; exact o2
  · rw [List.length_zipIdx]; simp; show inner.length = xs.length * 1; omega
  · intro m p hm
    rw [List.getElem?_zipIdx, Nat.zero_add] at hm
    obtain ⟨q, hq, rfl⟩ := Option.map_eq_some_iff.1 hm
    show (Kd.slice e0 d).M _ base (fun k => (ok k ∧ some k ≠ _) ∧ _) q ((((inner.set i v2).set j v1).drop (m * 1)).take 1)
    rw [one_take]
    have hml : m < xs.length := by
      have := (List.getElem?_eq_some_iff.1 hq).1
      simpa using this
    by_cases hmj : m = j
    · subst hmj
      rw [List.getElem?_set_self (by simp; omega)] at hq ⊢
      injection hq with hq
      subst hq
      have hi' : i < xs.length := by omega
      rw [List.getD_eq_getElem?_getD, List.getElem?_eq_getElem hi']
      have := hM i hi'
      rw [one_take, a1] at this
      refine (Kd.slice e0 d).M_mono (fun k hk => ⟨hk.1, ?_⟩) ((Kd.slice e0 d).M_move (fun k hk => move k (ne_of hk.1.2)) this)
      show (if f k = i then m else if f k = m then i else f k) = m
      rw [if_pos hk.2]
    · rw [List.getElem?_set_ne (Ne.symm hmj)] at hq ⊢
      by_cases hmi : m = i
      · subst hmi
        rw [List.getElem?_set_self (by omega)] at hq ⊢
        injection hq with hq
        subst hq
        have hj' : j < xs.length := by omega
        rw [List.getD_eq_getElem?_getD, List.getElem?_eq_getElem hj']
        have := hM j hj'
        rw [one_take, a2] at this
        refine (Kd.slice e0 d).M_mono (fun k hk => ⟨hk.1, ?_⟩) ((Kd.slice e0 d).M_move (fun k hk => move k (ne_of hk.1.2)) this)
        show (if f k = m then j else if f k = j then m else f k) = m
        rw [if_neg (by rw [hk.2]; omega), if_pos hk.2]
      · rw [List.getElem?_set_ne (Ne.symm hmi)] at hq ⊢
        have hq' : q = xs[m] := by rw [List.getElem?_eq_getElem hml] at hq; injection hq with hq; exact hq.symm
        subst hq'
        have := hM m hml
        rw [one_take] at this
        refine (Kd.slice e0 d).M_mono (fun k hk => ⟨hk.1, ?_⟩) ((Kd.slice e0 d).M_move (fun k hk => move k (ne_of hk.1.2)) this)
        show (if f k = i then j else if f k = j then i else f k) = m
        rw [if_neg (by rw [hk.2]; exact hmi), if_neg (by rw [hk.2]; exact hmj), hk.2]
/-- An element is taken out, the one at its place is laid where it was: it is lent, at the place of the other. -/
theorem S_lift (h : (Kd.slice e0 d).S e W base ok (.slice (some ⟨g, 0, none⟩) n cap) xs) (i j : Nat) (hi : i < n) (hj : j < n) {u1 u2 : Value}
    (h1 : W.cell? ⟨g, i, none⟩ = some u1) (h2 : W.cell? ⟨g, j, none⟩ = some u2) :
    ∃ oki : Nat → Prop, d.R e0 (W.setCell ⟨g, j, none⟩ u1) base oki u2 (xs.getD j []) ∧ (∀ k, oki k → ok k ∧ k ≠ g) ∧
      (Kd.slice e0 d).H e (W.setCell ⟨g, j, none⟩ u1) base ok (.slice (some ⟨g, 0, none⟩) n cap) ((xs.set i (xs.getD j [])).set j (xs.getD i [])) (i : Int) oki [u1] := by
  have hn := (Kd.S_reads' h).1
  obtain ⟨f, hok0, inner, ho, hr⟩ := h
  rw [List.length_zipIdx] at ho
  rw [← hn] at ho
  have hli : inner.length = n := by have := ho.1; rw [show (Kd.tag f (Kd.slice e0 d)).sz = 1 from rfl] at this; omega
  have ho1 : W.ownsRow base e 1 (.slice (some ⟨g, 0, none⟩) n cap) n inner := ho
  obtain ⟨v1, a1, b1, _⟩ := own_cell ho1 i hi
  obtain ⟨v2, a2, b2, _⟩ := own_cell ho1 j hj
  obtain rfl : v1 = u1 := Option.some.inj (b1.symm.trans h1)
  obtain rfl : v2 = u2 := Option.some.inj (b2.symm.trans h2)
  obtain ⟨o1, _⟩ := own_set ho1 j v1
  have move : ∀ (k : Nat), k ≠ g → (W.setCell ⟨g, j, none⟩ v1).heap[k]? = W.heap[k]? := fun k hk => Below.heap_setCell _ ⟨g, j, none⟩ v1 k hk
  have hM : ∀ (m : Nat) (hm : m < xs.length), (Kd.slice e0 d).M W base (fun k => (ok k ∧ some k ≠ (Value.slice (some ⟨g, 0, none⟩) n cap).ownBlock) ∧ f k = m) (xs[m]) ((inner.drop (m * 1)).take 1) := fun m hm => hr.2 m (xs[m], m) (Kd.zip_at (List.getElem?_eq_getElem hm))
  have hi' : i < xs.length := by omega
  have hj' : j < xs.length := by omega
  have hMj := hM j hj'
  rw [one_take, a2] at hMj
  have hMi := hM i hi'
  rw [one_take, a1] at hMi
  refine ⟨fun k => (ok k ∧ k ≠ g) ∧ f k = j, ?_, fun k hk => hk.1, fun k hk => hk.1.1, fun k => if f k = i then j else if f k = j then i else f k, fun k hk => ⟨hok0 k hk, fun h2 => h2.1.2 ?_⟩, inner.set j v1, ?_, ?_, ?_⟩
  · rw [List.getD_eq_getElem?_getD, List.getElem?_eq_getElem hj']
    obtain ⟨v, ev, hR⟩ := M_one hMj
    have : v2 = v := by simpa using ev
    subst this
    exact Kd.R_mono (Kd.R_move hR (fun k hk => move k (ne_of hk.1.2))) (fun k hk => ⟨⟨hk.1.1, ne_of hk.1.2⟩, hk.2⟩)
  · have : g = k := by simpa [Value.ownBlock] using hk
    exact this.symm
  · rw [List.length_zipIdx, List.length_set, List.length_set, ← hn]; exact o1
  · rw [List.length_zipIdx]; simp; show inner.length = xs.length * 1; omega
  · intro m p hm
    rw [List.getElem?_zipIdx, Nat.zero_add] at hm
    obtain ⟨q, hq, rfl⟩ := Option.map_eq_some_iff.1 hm
    have hml : m < xs.length := by
      have := (List.getElem?_eq_some_iff.1 hq).1
      simpa using this
    show (Kd.gap _ (Kd.slice e0 d) (i : Int).toNat [v1]).M _ base _ (q, m) (((inner.set j v1).drop (m * 1)).take 1)
    rw [one_take, Int.toNat_natCast]
    by_cases hmj : m = j
    · subst hmj
      rw [List.getElem?_set_self (by simp; omega)] at hq
      rw [List.getElem?_set_self (by omega)]
      injection hq with hq
      subst hq
      refine ⟨fun _ => ⟨rfl, rfl, fun u hu => ?_⟩, fun hne => ?_⟩
      · exact (Kd.slice e0 d).K_one ((Kd.slice e0 d).K_of_M hMi) u hu
      · rw [List.getD_eq_getElem?_getD, List.getElem?_eq_getElem hi']
        refine (Kd.slice e0 d).M_mono (fun k hk => ⟨⟨⟨hk.1.1, fun h2 => ?_⟩, hk.1.2⟩, ?_⟩) ((Kd.slice e0 d).M_move (fun k hk => move k (ne_of hk.1.2)) hMi)
        · exact hne (by rw [← h2.2, hk.2])
        · show (if f k = i then m else if f k = m then i else f k) = m
          rw [if_pos hk.2]
    · rw [List.getElem?_set_ne (Ne.symm hmj)] at hq ⊢
      by_cases hmi : m = i
      · subst hmi
        rw [a1]
        exact ⟨fun _ => ⟨rfl, rfl, fun u hu => (Kd.slice e0 d).K_one ((Kd.slice e0 d).K_of_M hMi) u hu⟩, fun hne => (hne rfl).elim⟩
      · rw [List.getElem?_set_ne (Ne.symm hmi)] at hq
        refine ⟨fun he => (hmi he).elim, fun _ => ?_⟩
        have hq' : q = xs[m] := by rw [List.getElem?_eq_getElem hml] at hq; injection hq with hq; exact hq.symm
        subst hq'
        have := hM m hml
        rw [one_take] at this
        refine (Kd.slice e0 d).M_mono (fun k hk => ⟨⟨⟨hk.1.1, fun h2 => ?_⟩, hk.1.2⟩, ?_⟩) ((Kd.slice e0 d).M_move (fun k hk => move k (ne_of hk.1.2)) this)
        · exact hmj (by rw [← h2.2, hk.2])
        · show (if f k = i then j else if f k = j then i else f k) = m
          rw [if_neg (by rw [hk.2]; exact hmi), if_neg (by rw [hk.2]; exact hmj), hk.2]
/-- Another element, while one is lent: it is read, in any world that keeps all but what is lent. -/
theorem H_other_reads (h : (Kd.slice e0 d).H e W base ok (.slice (some ⟨g, 0, none⟩) n cap) xs i oki c) (j : Nat) (hj : j < n) (hne : (j : Int) ≠ i) (h0 : 0 ≤ i) {u : Value} (hu : W.cell? ⟨g, j, none⟩ = some u) :
    ∃ A cp, u = .slice A (xs.getD j []).length cp ∧ (xs.getD j []).length ≤ cp ∧ ∀ W1, Kept W W1 oki → d.C W1 A (xs.getD j []).length (xs.getD j []) := by
  obtain ⟨hoo, f, hR⟩ := h
  have hn := (Kd.R_reads' hR).1
  rw [List.length_zipIdx] at hn
  obtain ⟨hok0, inner, ho, hr⟩ := hR
  rw [List.length_zipIdx, ← hn] at ho
  have ho1 : W.ownsRow base e 1 (.slice (some ⟨g, 0, none⟩) n cap) n inner := ho
  obtain ⟨v, a1, b1, _⟩ := own_cell ho1 j hj
  obtain rfl : v = u := Option.some.inj (b1.symm.trans hu)
  have hj' : j < xs.length := by omega
  have hM := (hr.2 j (xs[j], j) (Kd.zip_at (List.getElem?_eq_getElem hj'))).2 (by show j ≠ i.toNat; omega)
  change (Kd.slice e0 d).M W base _ (xs[j]) ((inner.drop (j * 1)).take 1) at hM
  rw [one_take, a1] at hM
  rw [List.getD_eq_getElem?_getD, List.getElem?_eq_getElem hj']
  obtain ⟨v', ev, hR'⟩ := M_one hM
  have : v = v' := by simpa using ev
  subst this
  obtain ⟨A, cp, rfl, hl, _⟩ := Kd.R_reads hR'
  refine ⟨A, cp, rfl, hl, fun W1 hk => ?_⟩
  have h3 : d.R e0 W1 base _ (.slice A (xs[j]).length cp) (xs[j]) := Kd.R_step hR' (fun k hk1 hlt => hk.2 k hlt hk1.1.1.2)
  exact (Kd.R_reads' h3).2.2
/-- What was lent comes back, by a store. -/
theorem H_put {v : Value} {y : List α} (h : (Kd.slice e0 d).H e W base ok (.slice (some ⟨g, 0, none⟩) n cap) xs i oki c) (h0 : 0 ≤ i) (h1 : i < n) (hu : d.R e0 W base oki v y) :
    (Kd.slice e0 d).S e (W.setCell ⟨g, i.toNat, none⟩ v) base ok (.slice (some ⟨g, 0, none⟩) n cap) (xs.set i.toNat y) ∧ W.grownBy (W.setCell ⟨g, i.toNat, none⟩ v) (some g) := by
  obtain ⟨_, _, _, hlc, _⟩ := Kd.H_raw h h0 h1
  have hlc' : c.length = 1 := hlc
  have := Kd.S_seg0 h h0 h1 (seg := [v]) (j := 0) (okp := oki) (x' := y) (by show 0 + 1 ≤ 1; omega)
    (by
      have e1 : c.take 0 ++ [v] ++ c.drop (0 + [v].length) = [v] := by
        rw [List.take_zero, List.nil_append, List.drop_eq_nil_of_le (by simp; omega), List.append_nil]
      rw [e1]
      exact Kd.M_row hu)
    (fun k hk => hk)
  simpa [World.setCells, show (Kd.slice e0 d).sz = 1 from rfl] using this
/-- An element is replaced by what has been made since. -/
theorem S_replace {v1 : Value} {y : List α} (h : (Kd.slice e0 d).S e W base ok (.slice (some ⟨g, 0, none⟩) n cap) xs) (i : Nat) (hi : i < n) (hb : Below W.heap.size W w1) (hB : base ≤ W.heap.size) (hok : ∀ k, W.heap.size ≤ k → ok k)
    (hu : d.R e0 w1 W.heap.size (fun _ => True) v1 y) :
    (Kd.slice e0 d).S e (w1.setCell ⟨g, i, none⟩ v1) base ok (.slice (some ⟨g, 0, none⟩) n cap) (xs.set i y) ∧ w1.grownBy (w1.setCell ⟨g, i, none⟩ v1) (some g) := by
  obtain ⟨oki, c, hcl, hM, hcc, hoki, hH⟩ := Kd.S_lend h ([] : List α) (i : Int) (by omega) (by omega)
  have hH' := Kd.H_below (Kd.H_widen hH) hb
  have hlc : c.length = 1 := hcl
  have := Kd.S_seg0 hH' (by omega) (by omega) (seg := [v1]) (j := 0) (okp := fun k => W.heap.size ≤ k) (x' := y) (by show 0 + 1 ≤ 1; omega)
    (by
      have e1 : c.take 0 ++ [v1] ++ c.drop (0 + [v1].length) = [v1] := by
        rw [List.take_zero, List.nil_append, List.drop_eq_nil_of_le (by simp; omega), List.append_nil]
      rw [e1]
      exact Kd.M_row (Kd.R_mono (Kd.R_lower (Kd.R_bound hu) hB) (fun k hk => hk.2.1)))
    (fun k hk => .inr ⟨hok k hk, hk⟩)
  simpa [World.setCells, show (Kd.slice e0 d).sz = 1 from rfl] using this
/-- An element is lent, with what is known of its blocks, and of all others; what has been written into it (and nothing else that is elder) comes back. -/
theorem S_turn (h : (Kd.slice e0 d).S e W base ok (.slice (some ⟨g, 0, none⟩) n cap) xs) (i : Nat) (hi : i < n) (hok : ∀ k, W.heap.size ≤ k → ok k) {u : Value} (hu : W.cell? ⟨g, i, none⟩ = some u) :
    ∃ oki : Nat → Prop, (∀ k, oki k → (ok k ∧ base ≤ k ∧ k < W.heap.size ∧ ∃ q, q ∈ e :: e0 :: d.E ∧ ∃ cells, W.heap[k]? = some (.cells cells q (0, 0))) ∧ k ≠ g) ∧ d.R e0 W base oki u (xs.getD i []) ∧
      (∀ (j : Nat) (v : Value), j < n → j ≠ i → W.cell? ⟨g, j, none⟩ = some v → ∃ A cp, v = .slice A (xs.getD j []).length cp ∧ (xs.getD j []).length ≤ cp ∧ ∀ W1, Kept W W1 oki → d.C W1 A (xs.getD j []).length (xs.getD j [])) ∧
      ∀ (w1 : World) (y : List α), Kept W w1 oki → d.R e0 w1 base (fun k => oki k ∨ W.heap.size ≤ k) u y → (Kd.slice e0 d).S e w1 base ok (.slice (some ⟨g, 0, none⟩) n cap) (xs.set i y) := by
  have hn := (Kd.S_reads' h).1
  obtain ⟨oki, c, hcl, hM, hcc, hoki, hH⟩ := Kd.S_lend (Kd.S_bound h) ([] : List α) (i : Int) (by omega) (by omega)
  obtain ⟨v, rfl, hR⟩ := M_one hM
  have hv := hcc 0 v rfl
  simp only [Int.toNat_natCast, Nat.add_zero, show (Kd.slice e0 d).sz = 1 from rfl, Nat.mul_one] at hv
  obtain rfl : v = u := Option.some.inj (hv.symm.trans hu)
  refine ⟨oki, hoki, hR, fun j v' hj hne hv' => ?_, fun w1 y hk hy => ?_⟩
  · exact H_other_reads hH j hj (by omega) (by omega) hv'
  · have h1 := Kd.H_step (Kd.H_widen (Kd.H_mono hH (fun k hk => hk.1))) (fun k hk1 hk2 hlt => hk.2 k hlt (fun h3 => hk2 (.inl h3)))
    have := Kd.H_back h1 (x' := y) (Kd.M_row hy) (fun k hk => hk.elim .inl (fun h3 => .inr ⟨hok k h3, h3⟩))
    simpa using this
end
end Go.Proofs.Ytanknpdibjfmlaa.Mm
