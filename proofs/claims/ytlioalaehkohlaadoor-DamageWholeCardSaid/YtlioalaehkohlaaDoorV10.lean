/- Writes into one's own. Conditions: as each theorem states them. -/
import Derived.Test.YtlioalaehkohlaaDoorV9
namespace Go.Proofs.YtlioalaehkohlaaDoor.Vm
open Go Go.RowKit
set_option linter.unusedVariables false
set_option linter.unusedSimpArgs false
section
variable {C : Ctx} {S : St} {E : Env} {q : Nat} {a : Act} {o : Oper} {R : Type} {T : Tys} {r : R}
theorem Keep.write {w w' : World} (h : Keep C w) {g : Nat} (hg : C.w0.heap.size ≤ g ∨ C.own0 g) (hos : w'.os = w.os) (ht : w'.tape = w.tape) (ho : w'.output = w.output) (hs : w.heap.size ≤ w'.heap.size) (hb : ∀ b, b < w.heap.size → b ≠ g → w'.heap[b]? = w.heap[b]?) : Keep C w' :=
  ⟨hos.trans h.os, ht.trans h.tape, ho.trans h.output, Nat.le_trans h.size hs, fun b hb' hn => (hb b (Nat.lt_of_lt_of_le hb' h.size) (fun e => by
    subst e
    rcases hg with hg | hg
    · omega
    · exact hn hg)).trans (h.block b hb' hn)⟩
theorem Fr.write (h : RelE C S E a) {i0 : Nat ⊕ Nat} {g : Nat} (hg : E.own g = some i0) (arr : Array Value) {fz : List Nat} : Fr C E { E with w := E.w.setRow g arr } [i0] fz := ⟨⟨fun _ h => h, fun _ _ => rfl, fun _ _ => rfl, fun b hb => by
  have hne : b ≠ g := fun e => by subst e; rw [hb.1] at hg; cases hg
  exact ⟨⟨hb.1, hb.2.1, by show b < (E.w.setRow g arr).heap.size; rw [setRow_size]; exact hb.2.2⟩, setRow_other _ _ _ _ hne⟩⟩, fun b i hb hi => ⟨.inl hb, setRow_other _ _ _ _ (fun e => by subst e; rw [hg] at hb; cases hb; simp at hi)⟩⟩
/-- A row's block is written. -/
theorem RelE.writeRow (h : RelE C S E a) {id g : Nat} (hg : E.own g = some (.inl id)) (arr : Array Value) {r' : RowC} (hid : E.live id) (hr : RowR C { E with w := E.w.setRow g arr } id r') :
    RelE C (S.newRow id r') { E with w := E.w.setRow g arr } a := by
  have hF : ∀ b, E.F C b → Env.F C { E with w := E.w.setRow g arr } b ∧ (E.w.setRow g arr).heap[b]? = E.w.heap[b]? := fun b hb => by
    have hne : b ≠ g := fun e => by subst e; rw [hb.1] at hg; cases hg
    exact ⟨⟨hb.1, hb.2.1, by show b < (E.w.setRow g arr).heap.size; rw [setRow_size]; exact hb.2.2⟩, setRow_other _ _ _ _ hne⟩
  have hle : Env.Le C E { E with w := E.w.setRow g arr } := ⟨fun _ h => h, fun _ _ => rfl, fun _ _ => rfl, hF⟩
  exact {
    slots := fun t => (h.slots t).mono hle
    rows := fun j r1 hj => by
      by_cases hji : j = id
      · subst hji
        have : r' = r1 := by simpa [St.newRow, sel_eq] using hj
        subst this; exact hr
      · have hj' : S.rows j = some r1 := by simpa [St.newRow, sel_eq, hji] using hj
        exact (h.rows j r1 hj').mono hle (h.idr _ _ hj') (fun g' hg' => ⟨hg', setRow_other _ _ _ _ (fun e => by subst e; rw [hg] at hg'; cases hg'; exact hji rfl)⟩)
    boxes := fun j b hb => (h.boxes j b hb).mono hle (h.idb _ _ hb) (fun g' hg' => ⟨hg', setRow_other _ _ _ _ (fun e => by subst e; rw [hg] at hg'; cases hg')⟩)
    ownlt := fun b x hx => ⟨by show b < (E.w.setRow g arr).heap.size; rw [setRow_size]; exact (h.ownlt b x hx).1, (h.ownlt b x hx).2⟩
    keep := h.keep.write (h.ownlt g _ hg).2 rfl rfl rfl (by rw [setRow_size]; exact Nat.le_refl _) (fun b _ hne => setRow_other _ _ _ _ hne)
    size := h.size
    arg := h.arg
    defers := h.defers
    idr := fun j r1 hj => by
      by_cases hji : j = id
      · subst hji; exact hid
      · exact h.idr j r1 (by simpa [St.newRow, sel_eq, hji] using hj)
    idb := h.idb
    glob := h.glob.mono hle
    nests := fun j n hn => (h.nests j n (nest_sel hn).2).mono hle (h.idn _ _ (nest_sel hn).2) (fun g' hg' => ⟨hg', setRow_other _ _ _ _ (fun e => by subst e; rw [hg] at hg'; cases hg'; exact (nest_sel hn).1 rfl)⟩)
    idn := fun j n hn => h.idn j n (nest_sel hn).2 }
/-- A box is written. -/
theorem RelE.writeBox (h : RelE C S E a) {id g : Nat} (hg : E.own g = some (.inr id)) (arr : Array Value) {b' : BoxC} (hid : E.live id) (hr : BoxR C { E with w := E.w.setRow g arr } id b') :
    RelE C (S.newBox id b') { E with w := E.w.setRow g arr } a := by
  have hF : ∀ b, E.F C b → Env.F C { E with w := E.w.setRow g arr } b ∧ (E.w.setRow g arr).heap[b]? = E.w.heap[b]? := fun b hb => by
    have hne : b ≠ g := fun e => by subst e; rw [hb.1] at hg; cases hg
    exact ⟨⟨hb.1, hb.2.1, by show b < (E.w.setRow g arr).heap.size; rw [setRow_size]; exact hb.2.2⟩, setRow_other _ _ _ _ hne⟩
  have hle : Env.Le C E { E with w := E.w.setRow g arr } := ⟨fun _ h => h, fun _ _ => rfl, fun _ _ => rfl, hF⟩
  exact {
    slots := fun t => (h.slots t).mono hle
    rows := fun j r1 hj => (h.rows j r1 hj).mono hle (h.idr _ _ hj) (fun g' hg' => ⟨hg', setRow_other _ _ _ _ (fun e => by subst e; rw [hg] at hg'; cases hg')⟩)
    boxes := fun j b1 hj => by
      by_cases hji : j = id
      · subst hji
        have : b' = b1 := by simpa [St.newBox, sel_eq] using hj
        subst this; exact hr
      · have hj' : S.box j = some b1 := by simpa [St.newBox, sel_eq, hji] using hj
        exact (h.boxes j b1 hj').mono hle (h.idb _ _ hj') (fun g' hg' => ⟨hg', setRow_other _ _ _ _ (fun e => by subst e; rw [hg] at hg'; cases hg'; exact hji rfl)⟩)
    ownlt := fun b x hx => ⟨by show b < (E.w.setRow g arr).heap.size; rw [setRow_size]; exact (h.ownlt b x hx).1, (h.ownlt b x hx).2⟩
    keep := h.keep.write (h.ownlt g _ hg).2 rfl rfl rfl (by rw [setRow_size]; exact Nat.le_refl _) (fun b _ hne => setRow_other _ _ _ _ hne)
    size := h.size
    arg := h.arg
    defers := h.defers
    idr := h.idr
    idb := fun j b1 hj => by
      by_cases hji : j = id
      · subst hji; exact hid
      · exact h.idb j b1 (by simpa [St.newBox, sel_eq, hji] using hj)
    glob := h.glob.mono hle
    nests := fun j n hn => (h.nests j n hn).mono hle (h.idn _ _ hn) (fun g' hg' => ⟨hg', setRow_other _ _ _ _ (fun e => by subst e; rw [hg] at hg'; cases hg')⟩)
    idn := h.idn }
theorem cells_take {w : World} {g o : Nat} {cs : List Value} {arr : Array Value} {t : TypeId} {fr : Nat × Nat} (hh : w.heap[g]? = some (.cells arr t fr)) (hc : CellsAt w g o cs) : (arr.toList.drop o).take cs.length = cs := by
  apply List.ext_getElem?
  intro j
  by_cases hj : j < cs.length
  · rw [List.getElem?_take, if_pos hj, List.getElem?_drop]
    have h1 := hc j cs[j] (List.getElem?_eq_getElem hj)
    rw [cell_of_row w g (o + j) arr t fr hh] at h1
    rw [List.getElem?_eq_getElem hj, ← h1]
    simp
  · rw [List.getElem?_eq_none (by simp; omega), List.getElem?_eq_none (by omega)]
theorem cells_in {w : World} {g o : Nat} {cs pre post : List Value} {arr : Array Value} {t : TypeId} {fr : Nat × Nat} (hh : w.heap[g]? = some (.cells arr t fr)) (he : arr.toList = pre ++ cs ++ post) (ho : pre.length = o) : CellsAt w g o cs := fun j v hj => by
  rw [cell_of_row w g (o + j) arr t fr hh]
  have hjl := (List.getElem?_eq_some_iff.1 hj).1
  rw [← Array.getElem?_toList, he, List.append_assoc, List.getElem?_append_right (by omega), ho, Nat.add_sub_cancel_left, List.getElem?_append_left hjl]
  exact hj
/-- An element of one's own is written. -/
theorem elem_put (h : RelE C S E a) {id i g m c : Nat} {rr : RowC} (hr : S.rows id = some rr) (hf : rr.fz = false) (hi : i < rr.xs.length) (hv : E.rv id = .slice (some ⟨g, 0, none⟩) m c) {y : rr.k.den} {ds : List Value} (hy : VR E.w (E.F C) rr.k y ds) :
    ∃ arr, E.w.heap[g]? = some (.cells arr rr.e (0, 0)) ∧ i * rr.k.sz + ds.length ≤ arr.size ∧
      RelE C (S.newRow id ⟨rr.e, rr.k, rr.xs.set i y, false⟩) { E with w := E.w.setRow g (arr.toList.take (i * rr.k.sz) ++ ds ++ arr.toList.drop (i * rr.k.sz + ds.length)).toArray } a := by
  rcases h.rows id rr hr with ⟨h1, h2⟩ | ⟨g', c', h1, h2, h2', h3, h4⟩
  · rw [h1] at hi; simp at hi
  · rw [h1] at hv
    cases hv
    rw [if_neg (by rw [hf]; simp)] at h4
    obtain ⟨hown, arr, hh, hs⟩ := h4
    have hlen := hy.len
    have hroom : i * rr.k.sz + ds.length ≤ arr.size := by
      rw [hs, hlen, ← Nat.succ_mul]
      exact Nat.mul_le_mul_right _ (by omega)
    refine ⟨arr, hh, hroom, ?_⟩
    have hw := setRow_heap E.w g arr (arr.toList.take (i * rr.k.sz) ++ ds ++ arr.toList.drop (i * rr.k.sz + ds.length)).toArray rr.e (0, 0) hh
    have hF : ∀ b, E.F C b → Env.F C { E with w := E.w.setRow g (arr.toList.take (i * rr.k.sz) ++ ds ++ arr.toList.drop (i * rr.k.sz + ds.length)).toArray } b ∧ (E.w.setRow g (arr.toList.take (i * rr.k.sz) ++ ds ++ arr.toList.drop (i * rr.k.sz + ds.length)).toArray).heap[b]? = E.w.heap[b]? := fun b hb => by
      have hne : b ≠ g := fun e => by subst e; rw [hb.1] at hown; cases hown
      exact ⟨⟨hb.1, hb.2.1, by show b < (E.w.setRow g _).heap.size; rw [setRow_size]; exact hb.2.2⟩, setRow_other _ _ _ _ hne⟩
    refine h.writeRow hown _ (h.idr id rr hr) (.inr ⟨g, c, ?_, ?_, h2', ?_, ?_⟩)
    · rw [List.length_set]; exact h1
    · rw [List.length_set]; exact h2
    · intro j x hx
      by_cases hji : j = i
      · subst hji
        rw [List.getElem?_set_self hi] at hx
        cases hx
        exact ⟨ds, hy.mono hF, cells_in hw rfl (by show (arr.toList.take (j * rr.k.sz)).length = j * rr.k.sz; rw [List.length_take, Array.length_toList]; omega)⟩
      · rw [List.getElem?_set_ne (Ne.symm hji)] at hx
        obtain ⟨d2, g1, g2⟩ := h3 j x hx
        refine ⟨d2, g1.mono hF, fun n v hn => ?_⟩
        have hc := g2 n v hn
        rw [cell_of_row E.w g _ arr rr.e (0, 0) hh] at hc
        rw [cell_of_row _ g _ _ rr.e (0, 0) hw]
        have hnl := (List.getElem?_eq_some_iff.1 hn).1
        rw [g1.len] at hnl
        rw [List.getElem?_toArray]
        have htl : (arr.toList.take (i * rr.k.sz)).length = i * rr.k.sz := by rw [List.length_take, Array.length_toList]; omega
        rcases Nat.lt_or_gt_of_ne hji with hlt | hgt
        · have : j * rr.k.sz + n < i * rr.k.sz := by
            have : (j + 1) * rr.k.sz ≤ i * rr.k.sz := Nat.mul_le_mul_right _ hlt
            rw [Nat.add_mul] at this
            omega
          rw [List.append_assoc, List.getElem?_append_left (by rw [htl]; exact this), List.getElem?_take, if_pos this]
          simpa using hc
        · have h5 : i * rr.k.sz + ds.length ≤ j * rr.k.sz + n := by
            have : (i + 1) * rr.k.sz ≤ j * rr.k.sz := Nat.mul_le_mul_right _ hgt
            rw [Nat.add_mul, Nat.one_mul] at this
            rw [hlen]
            omega
          rw [List.getElem?_append_right (by rw [List.length_append, htl]; exact h5), List.length_append, htl, List.getElem?_drop]
          rw [show i * rr.k.sz + ds.length + (j * rr.k.sz + n - (i * rr.k.sz + ds.length)) = j * rr.k.sz + n by omega]
          simpa using hc
    · rw [if_neg (by simp)]
      refine ⟨hown, _, hw, ?_⟩
      simp only [List.size_toArray, List.length_append, List.length_take, List.length_drop, Array.length_toList]
      omega
theorem Ki.getO_ok {w : World} {F : Nat → Prop} {k' : Ki} : ∀ {k : Ki} {o : Nat} {x : k.den} {cs : List Value} {y : k'.den}, Ki.getO k' k o x = some y → VR w F k x cs → ∃ pre ds post, cs = pre ++ ds ++ post ∧ pre.length = o ∧ VR w F k' y ds := by
  intro k
  induction k with
  | pair a b iha ihb =>
    intro o x cs y h hv
    have hv' := hv
    obtain ⟨c1, c2, rfl, h1, h2⟩ := hv
    cases o with
    | zero =>
      simp only [Ki.getO] at h
      split at h
      · rename_i hk
        subst hk
        cases h
        exact ⟨[], _, [], by simp, rfl, hv'⟩
      · obtain ⟨pre, ds, post, rfl, e1, e2⟩ := iha h h1
        exact ⟨pre, ds, post ++ c2, by simp, e1, e2⟩
    | succ o =>
      simp only [Ki.getO] at h
      split at h
      · rename_i hb
        have hb := Nat.le_of_ble_eq_true hb
        obtain ⟨pre, ds, post, rfl, e1, e2⟩ := ihb h h2
        exact ⟨c1 ++ pre, ds, post, by simp, by rw [List.length_append, h1.len, e1]; omega, e2⟩
      · obtain ⟨pre, ds, post, rfl, e1, e2⟩ := iha h h1
        exact ⟨pre, ds, post ++ c2, by simp, e1, e2⟩
  | _ =>
    intro o x cs y h hv
    cases o with
    | zero =>
      simp only [Ki.getO] at h
      split at h
      · rename_i hk
        subst hk
        cases h
        exact ⟨[], _, [], by simp, rfl, hv⟩
      · cases h
    | succ o => simp [Ki.getO] at h
theorem split3 {α : Type} (l : List α) (n m : Nat) : l = l.take n ++ (l.drop n).take m ++ l.drop (n + m) := by
  rw [List.append_assoc, ← List.drop_drop, List.take_append_drop, List.take_append_drop]
theorem Ki.setO_ok {w : World} {F : Nat → Prop} {k' : Ki} {y : k'.den} {ds : List Value} (hy : VR w F k' y ds) : ∀ {k : Ki} {o : Nat} {x z : k.den} {cs : List Value}, Ki.setO k' y k o x = some z → VR w F k x cs → ∃ pre d0 post, cs = pre ++ d0 ++ post ∧ pre.length = o ∧ d0.length = ds.length ∧ VR w F k z (pre ++ ds ++ post) := by
  intro k
  induction k with
  | pair a b iha ihb =>
    intro o x z cs h hv
    have hv' := hv
    obtain ⟨c1, c2, rfl, h1, h2⟩ := hv
    cases o with
    | zero =>
      simp only [Ki.setO] at h
      split at h
      · rename_i hk
        subst hk
        cases h
        exact ⟨[], c1 ++ c2, [], by simp, rfl, by rw [hv'.len, hy.len], by rw [List.nil_append, List.append_nil]; exact hy⟩
      · split at h
        · rename_i z' hz
          cases h
          obtain ⟨pre, d0, post, rfl, e1, e2, e3⟩ := iha hz h1
          exact ⟨pre, d0, post ++ c2, by simp, e1, e2, pre ++ ds ++ post, c2, by simp, e3, h2⟩
        · cases h
    | succ o =>
      simp only [Ki.setO] at h
      split at h
      · rename_i hb
        have hb := Nat.le_of_ble_eq_true hb
        split at h
        · rename_i z' hz
          cases h
          obtain ⟨pre, d0, post, rfl, e1, e2, e3⟩ := ihb hz h2
          exact ⟨c1 ++ pre, d0, post, by simp, by rw [List.length_append, h1.len, e1]; omega, e2, c1, pre ++ ds ++ post, by simp, h1, e3⟩
        · cases h
      · split at h
        · rename_i z' hz
          cases h
          obtain ⟨pre, d0, post, rfl, e1, e2, e3⟩ := iha hz h1
          exact ⟨pre, d0, post ++ c2, by simp, e1, e2, pre ++ ds ++ post, c2, by simp, e3, h2⟩
        · cases h
  | _ =>
    intro o x z cs h hv
    cases o with
    | zero =>
      simp only [Ki.setO] at h
      split at h
      · rename_i hk
        subst hk
        cases h
        exact ⟨[], cs, [], by simp, rfl, by rw [hv.len, hy.len], by rw [List.nil_append, List.append_nil]; exact hy⟩
      · cases h
    | succ o => simp [Ki.setO] at h
/-- A part of an element, written. -/
theorem elem_part (h : RelE C S E a) {id i g m c : Nat} {rr : RowC} (hr : S.rows id = some rr) (hf : rr.fz = false) (hi : i < rr.xs.length) (hv : E.rv id = .slice (some ⟨g, 0, none⟩) m c) {kt : Ki} {y : kt.den} {ds : List Value} (hy : VR E.w (E.F C) kt y ds) {o : Nat} {z : rr.k.den} (hz : Ki.setO kt y rr.k o (rr.xs.getD i rr.k.zero) = some z) :
    ∃ arr, E.w.heap[g]? = some (.cells arr rr.e (0, 0)) ∧ (i * rr.k.sz + o) + ds.length ≤ arr.size ∧
      RelE C (S.newRow id ⟨rr.e, rr.k, rr.xs.set i z, false⟩) { E with w := E.w.setRow g (arr.toList.take (i * rr.k.sz + o) ++ ds ++ arr.toList.drop ((i * rr.k.sz + o) + ds.length)).toArray } a := by
  obtain ⟨cs, hcs, hat⟩ : ∃ cs, VR E.w (E.F C) rr.k rr.xs[i] cs ∧ CellsAt E.w g (i * rr.k.sz) cs := by
    rcases h.rows id rr hr with ⟨h1, h2⟩ | ⟨g', c', h1, h2, h2', h3, h4⟩
    · rw [h1] at hi; simp at hi
    · rw [h1] at hv; cases hv
      exact h3 i rr.xs[i] (List.getElem?_eq_getElem hi)
  have hx' : rr.xs.getD i rr.k.zero = rr.xs[i] := by simp [List.getD_eq_getElem?_getD, hi]
  rw [hx'] at hz
  obtain ⟨pre, d0, post, rfl, e1, e2, e3⟩ := Ki.setO_ok hy hz hcs
  obtain ⟨arr, g1, g2, g3⟩ := elem_put h hr hf hi hv e3
  have hL : (pre ++ d0 ++ post).length = (pre ++ ds ++ post).length := by simp [e2]
  have harr : arr.toList = arr.toList.take (i * rr.k.sz) ++ (pre ++ d0 ++ post) ++ arr.toList.drop (i * rr.k.sz + (pre ++ d0 ++ post).length) := by
    have hm : (arr.toList.drop (i * rr.k.sz)).take (pre ++ d0 ++ post).length = pre ++ d0 ++ post := by
      apply List.ext_getElem?
      intro j
      by_cases hj : j < (pre ++ d0 ++ post).length
      · rw [List.getElem?_take, if_pos hj, List.getElem?_drop]
        have := hat j _ (List.getElem?_eq_getElem hj)
        rw [cell_of_row E.w g _ arr rr.e (0, 0) g1] at this
        rw [List.getElem?_eq_getElem hj, Array.getElem?_toList]
        exact this
      · rw [List.getElem?_eq_none (by rw [List.length_take]; omega), List.getElem?_eq_none (by omega)]
    have h3 := split3 arr.toList (i * rr.k.sz) (pre ++ d0 ++ post).length
    rw [hm] at h3
    exact h3
  have ht : (arr.toList.take (i * rr.k.sz)).length = i * rr.k.sz := by rw [List.length_take, Array.length_toList]; omega
  have hnew : arr.toList.take (i * rr.k.sz + o) ++ ds ++ arr.toList.drop ((i * rr.k.sz + o) + ds.length) = arr.toList.take (i * rr.k.sz) ++ (pre ++ ds ++ post) ++ arr.toList.drop (i * rr.k.sz + (pre ++ ds ++ post).length) := by
    generalize hA : arr.toList.take (i * rr.k.sz) = A at harr ht ⊢
    rw [hL] at harr
    generalize hB : arr.toList.drop (i * rr.k.sz + (pre ++ ds ++ post).length) = B at harr ⊢
    have t1 : arr.toList.take (i * rr.k.sz + o) = A ++ pre := by
      rw [harr, show A ++ (pre ++ d0 ++ post) ++ B = (A ++ pre) ++ (d0 ++ post ++ B) by simp [List.append_assoc], List.take_append_of_le_length (by rw [List.length_append, ht, e1]; exact Nat.le_refl _), List.take_of_length_le (by rw [List.length_append, ht, e1]; exact Nat.le_refl _)]
    have t2 : arr.toList.drop (i * rr.k.sz + o + ds.length) = post ++ B := by
      rw [harr, show A ++ (pre ++ d0 ++ post) ++ B = (A ++ pre ++ d0) ++ (post ++ B) by simp [List.append_assoc], List.drop_append_of_le_length (by simp only [List.length_append, ht, e1, e2]; exact Nat.le_refl _), List.drop_of_length_le (by simp only [List.length_append, ht, e1, e2]; exact Nat.le_refl _), List.nil_append]
    rw [t1, t2]; simp [List.append_assoc]
  refine ⟨arr, g1, ?_, ?_⟩
  · have : (pre ++ ds ++ post).length = pre.length + ds.length + post.length := by simp [Nat.add_assoc]
    omega
  · rw [hnew]; exact g3
theorem boxes_frs (S : St) : ∀ l : List Nat, (S.frs l).box = S.box
  | [] => rfl
  | i :: r => (boxes_frs (S.freeze i) r).trans rfl
theorem rows_frs {id : Nat} {rr : RowC} : ∀ {l : List Nat} {S : St}, S.rows id = some rr → l.contains id = false → (S.frs l).rows id = some rr
  | [], S, h, _ => h
  | i :: r, S, h, hn => by
    simp only [List.contains_cons, Bool.or_eq_false_iff] at hn
    refine rows_frs (S := S.freeze i) ?_ hn.2
    show sel id i _ (S.rows id) = some rr
    rw [sel_eq, if_neg (by simpa using hn.1)]
    exact h
/-- A box's cells, some of them new. -/
theorem box_put (h : RelE C S E a) {b o : Nat} {B : BoxC} (hb : S.box b = some B) {pre ss post : List SV} {cs : List Value} (hp : takeC B.cs o = some pre) (hd : dropC B.cs (o + cs.length) = some post) (hs : SVcs C E ss cs) (h1 : ∀ u ∈ cs, u.oneCell' = true) :
    ∃ arr, E.w.heap[E.bb b]? = some (.cells arr B.t (0, 0)) ∧ o + cs.length ≤ arr.size ∧
      RelE C (S.newBox b ⟨B.t, pre ++ ss ++ post⟩) { E with w := E.w.setRow (E.bb b) (arr.toList.take o ++ cs ++ arr.toList.drop (o + cs.length)).toArray } a := by
  obtain ⟨hown, arr, hh, hsv, hone⟩ := h.boxes b B hb
  obtain ⟨p1, p2⟩ := takeC_ok hp hsv
  obtain ⟨d1, d2⟩ := dropC_ok hd hsv
  have hroom : o + cs.length ≤ arr.size := by rw [← Array.length_toList]; exact d1
  refine ⟨arr, hh, hroom, ?_⟩
  have hw := setRow_heap E.w (E.bb b) arr (arr.toList.take o ++ cs ++ arr.toList.drop (o + cs.length)).toArray B.t (0, 0) hh
  have hF : ∀ x, E.F C x → Env.F C { E with w := E.w.setRow (E.bb b) (arr.toList.take o ++ cs ++ arr.toList.drop (o + cs.length)).toArray } x ∧ (E.w.setRow (E.bb b) (arr.toList.take o ++ cs ++ arr.toList.drop (o + cs.length)).toArray).heap[x]? = E.w.heap[x]? := fun x hx => by
    have hne : x ≠ E.bb b := fun e => by subst e; rw [hx.1] at hown; cases hown
    exact ⟨⟨hx.1, hx.2.1, by show x < (E.w.setRow (E.bb b) _).heap.size; rw [setRow_size]; exact hx.2.2⟩, setRow_other _ _ _ _ hne⟩
  have hle : Env.Le C E { E with w := E.w.setRow (E.bb b) (arr.toList.take o ++ cs ++ arr.toList.drop (o + cs.length)).toArray } := ⟨fun _ h => h, fun _ _ => rfl, fun _ _ => rfl, hF⟩
  refine h.writeBox hown _ (h.idb b B hb) ⟨hown, _, hw, SVcs.mono hle (ERl.app (ERl.app p2 hs) d2), ?_⟩
  intro u hu
  simp only [List.mem_append] at hu
  rcases hu with (hu | hu) | hu
  · exact hone u (List.mem_of_mem_take hu)
  · exact h1 u hu
  · exact hone u (List.mem_of_mem_drop hu)
end
end Go.Proofs.YtlioalaehkohlaaDoor.Vm
