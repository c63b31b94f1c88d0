/- Rows of rows of one's own. Conditions: as each theorem states them. -/
import Derived.Test.YtlioalaehkohlaaDoorV15
namespace Go.Proofs.YtlioalaehkohlaaDoor.Vm
open Go Go.RowKit
set_option linter.unusedVariables false
set_option linter.unusedSimpArgs false
section
variable {C : Ctx} {S : St} {E : Env} {q : Nat} {a : Act} {o : Oper} {R : Type} {T : Tys} {r : R}
theorem row_ne {id : Nat} {n : NestC} {j : Nat} {r : RowC} (h : (S.newNest id n).rows j = some r) : j ≠ id ∧ S.rows j = some r := by
  have h' : sel j id none (S.rows j) = some r := h
  rw [sel_eq] at h'
  split at h'
  · cases h'
  · rename_i hne; exact ⟨hne, h'⟩
theorem nest_or {id : Nat} {n m : NestC} {j : Nat} (h : (S.newNest id n).nest j = some m) : (j = id ∧ m = n) ∨ (j ≠ id ∧ S.nest j = some m) := by
  have h' : sel j id (some n) (S.nest j) = some m := h
  rw [sel_eq] at h'
  split at h'
  · rename_i he; cases h'; exact .inl ⟨he, rfl⟩
  · rename_i hne; exact .inr ⟨hne, h'⟩
/-- A new row of rows. -/
theorem RelE.newNest (h : RelE C S E a) {id : Nat} (hid : ¬ E.live id) {n : NestC} {v : Value} {o : Option Nat} {w' : World} (hw : Wider E.w w') (ho : ∀ b, o = some b → E.w.heap.size ≤ b ∧ b < w'.heap.size)
    (hr : NestR C (E.newRow id v o w') id n) : RelE C (S.newNest id n) (E.newRow id v o w') a := by
  have hle := Env.le_new (C := C) hid v o hw (fun b hb => (ho b hb).1)
  have hown : ∀ g x, E.own g = some x → (E.newRow id v o w').own g = some x ∧ (E.newRow id v o w').w.heap[g]? = E.w.heap[g]? := fun g x hg => by
    have hlt := (h.ownlt g _ hg).1
    exact ⟨by show (if some g = o then _ else E.own g) = _; rw [if_neg (fun e => by have := (ho g e.symm).1; omega), hg], hw.block g hlt⟩
  exact {
    slots := fun t => (h.slots t).mono hle
    rows := fun j r' hj => (h.rows j r' (row_ne hj).2).mono hle (h.idr _ _ (row_ne hj).2) (fun g hg => hown g _ hg)
    boxes := fun j b hb => (h.boxes j b hb).mono hle (h.idb _ _ hb) (fun g hg => hown g _ hg)
    ownlt := fun b x hx => by
      have hx' : (if some b = o then some (.inl id) else E.own b) = some x := hx
      by_cases hb : some b = o
      · have := ho b hb.symm
        exact ⟨this.2, .inl (Nat.le_trans h.keep.size this.1)⟩
      · rw [if_neg hb] at hx'
        exact ⟨Nat.lt_of_lt_of_le (h.ownlt b x hx').1 hw.size, (h.ownlt b x hx').2⟩
    keep := h.keep.wider hw
    size := h.size
    arg := h.arg
    defers := h.defers
    idr := fun j r' hj => .inr (h.idr j r' (row_ne hj).2)
    idb := fun j b hb => .inr (h.idb j b hb)
    glob := h.glob.mono hle
    nests := fun j m hm => by
      rcases nest_or hm with ⟨rfl, rfl⟩ | ⟨h1, h2⟩
      · exact hr
      · exact (h.nests j m h2).mono hle (h.idn _ _ h2) (fun g hg => hown g _ hg)
    idn := fun j m hm => by
      rcases nest_or hm with ⟨rfl, rfl⟩ | ⟨h1, h2⟩
      · exact .inl rfl
      · exact .inr (h.idn j m h2) }
/-- Shared from now on, all of it. -/
theorem nest_freeze (h : RelE C S E a) {id : Nat} {n : NestC} (hn : S.nest id = some n) (hh : n.hole = none) {v : Value} (hv : SVR C E (.row id) v) (hsz : 0 < n.k.sz) :
    RelE C (S.freeze id) (E.drop id) a ∧ SVR C (E.drop id) (.val (.list (.list n.k)) n.xs) v := by
  refine ⟨h.freeze id, ?_⟩
  have hF : ∀ g, E.own g = some (.inl id) → (E.drop id).F C g := fun g hg => ⟨by show (if E.own g = some (.inl id) then none else E.own g) = none; rw [if_pos hg], .inr (h.ownlt g _ hg).2, (h.ownlt g _ hg).1⟩
  have hle : ∀ b, E.F C b → (E.drop id).F C b ∧ (E.drop id).w.heap[b]? = E.w.heap[b]? := fun b hb => ⟨⟨by show (if E.own b = some (.inl id) then none else E.own b) = none; rw [hb.1]; simp, hb.2.1, hb.2.2⟩, rfl⟩
  obtain ⟨_, rfl⟩ := hv
  show VRv (E.drop id).w ((E.drop id).F C) (.list (.list n.k)) n.xs (E.rv id)
  have key : VR (E.drop id).w ((E.drop id).F C) (.list (.list n.k)) n.xs [E.rv id] := by
    rcases h.nests id n hn with ⟨h1, h2⟩ | ⟨g, c, arr, h1, h2, h3, h4, h5, h6, h7, h8⟩
    · rw [h2]
      refine ⟨none, 0, by rw [h1]; rfl, by rw [h1]; exact Nat.le_refl _, Nat.zero_le _, fun i x hx => ?_⟩
      have hx' : (n.xs : List (List n.k.den))[i]? = some x := hx
      simp [h1] at hx'
    · rw [h1]
      refine ⟨some ⟨g, 0, none⟩, c, rfl, h2, h3, fun i x hx => ?_⟩
      obtain ⟨v, k1, k2, _⟩ := h7 i x hx (by rw [hh]; simp)
      refine ⟨g, 0, [v], rfl, hF g h4, ?_, fun j u hj => ?_⟩
      · rcases k2 with ⟨e1, e2⟩ | ⟨g', c', e1, e2, e3, e4, e5, _⟩
        · refine ⟨none, 0, by rw [e1, e2]; rfl, by rw [e1]; exact Nat.le_refl _, Nat.zero_le _, fun i y hy => ?_⟩
          have hy' : (x : List n.k.den)[i]? = some y := hy
          simp [e1] at hy'
        · refine ⟨some ⟨g', 0, none⟩, c', by rw [e1], e2, e3, fun i y hy => ?_⟩
          obtain ⟨ds, f1, f2⟩ := e4 i y hy
          exact ⟨g', 0, ds, rfl, hF g' e5, f1.mono hle, by rw [Nat.zero_add]; exact f2⟩
      · have hj0 : j = 0 := by
          have := (List.getElem?_eq_some_iff.1 hj).1
          simpa using this
        subst hj0
        have hu : v = u := by simpa using hj
        subst hu
        show E.w.cell? ⟨g, 0 + i * 1 + 0, none⟩ = some v
        rw [cell_of_row E.w g _ arr n.e (0, 0) h5, show 0 + i * 1 + 0 = i by omega]
        exact k1
  simpa [VRv, Ki.agg] using key
/-- An inner row is taken out. -/
theorem nest_take (h : RelE C S E a) (hq : ¬ E.live q) {id : Nat} {n : NestC} (hn : S.nest id = some n) (hh : n.hole = none) {i : Nat} (hi : i < n.xs.length) {g m c : Nat} (hv : E.rv id = .slice (some ⟨g, 0, none⟩) m c) :
    ∃ v, E.w.cell? ⟨g, i, none⟩ = some v ∧ RelE C ((S.newRow q ⟨n.t, n.k, List.getD n.xs i [], false⟩).newNest id { n with hole := some i }) (E.newRow q v v.ownBlock E.w) a ∧ (∀ fz, Fr C E (E.newRow q v v.ownBlock E.w) [.inl id] fz) := by
  rcases h.nests id n hn with ⟨h1, h2⟩ | ⟨g', c', arr, h1, h2, h3, h4, h5, h6, h7, h8⟩
  · rw [h1] at hi; simp at hi
  rw [h1] at hv
  cases hv
  have hx : n.xs[i]? = some (List.getD n.xs i []) := by rw [List.getD_eq_getElem?_getD, List.getElem?_eq_getElem hi]; rfl
  obtain ⟨v, k1, k2, k3⟩ := h7 i _ hx (by rw [hh]; simp)
  have hne : id ≠ q := fun e => hq (e ▸ h.idn id n hn)
  have hob : ∀ b, some b = v.ownBlock → E.own b = some (.inl id) := fun b hb => by
    rcases k2 with ⟨_, e2⟩ | ⟨g2, c2, e2, _, _, _, e5, _⟩
    · rw [e2] at hb; simp [Value.ownBlock] at hb
    · rw [e2] at hb
      have : b = g2 := by simpa [Value.ownBlock] using hb
      rw [this]; exact e5
  have hF : ∀ b, E.F C b → (E.newRow q v v.ownBlock E.w).F C b ∧ E.w.heap[b]? = E.w.heap[b]? := fun b hb => ⟨⟨by
    show (if some b = v.ownBlock then some (Sum.inl q) else E.own b) = none
    rw [if_neg (fun e => by have := hob b e; rw [hb.1] at this; cases this)]; exact hb.1, hb.2.1, hb.2.2⟩, rfl⟩
  have hle : Env.Le C E (E.newRow q v v.ownBlock E.w) := ⟨fun j hj => .inr hj, fun j hj => by show (if j = q then v else E.rv j) = _; exact if_neg (fun e : j = q => hq (e ▸ hj)), fun _ _ => rfl, hF⟩
  have hown : ∀ b x, E.own b = some x → x ≠ .inl id → (E.newRow q v v.ownBlock E.w).own b = some x ∧ (E.newRow q v v.ownBlock E.w).w.heap[b]? = E.w.heap[b]? := fun b x hb hx => ⟨by
    show (if some b = v.ownBlock then some (Sum.inl q) else E.own b) = some x
    rw [if_neg (fun e => by have := hob b e; rw [hb] at this; exact hx (Option.some.inj this)), hb], rfl⟩
  refine ⟨v, by rw [cell_of_row E.w g i arr n.e (0, 0) h5]; exact k1, ?_, fun fz => ⟨hle, fun b x hb hx => by
    obtain ⟨e1, e2⟩ := hown b x hb (fun e => hx (by rw [e]; simp))
    exact ⟨.inl e1, e2⟩⟩⟩
  exact {
    slots := fun t => (h.slots t).mono hle
    rows := fun j r' hj => by
      obtain ⟨hj1, hj2⟩ := row_ne hj
      by_cases hjq : j = q
      · subst hjq
        have : (⟨n.t, n.k, List.getD n.xs i [], false⟩ : RowC) = r' := by simpa [St.newRow, sel_eq] using hj2
        subst this
        rcases k2 with ⟨e1, e2⟩ | ⟨g2, c2, e1, e2, e3, e4, e5, arr2, e6, e7⟩
        · exact .inl ⟨e1, by show (if j = j then v else _) = _; rw [if_pos rfl, e2]⟩
        · refine .inr ⟨g2, c2, by show (if j = j then v else _) = _; rw [if_pos rfl, e1], e2, e3, e4.mono hle rfl, ?_⟩
          rw [if_neg (by simp)]
          exact ⟨if_pos (by rw [e1]; simp [Value.ownBlock]), arr2, e6, e7⟩
      · have hj' : S.rows j = some r' := by simpa [St.newRow, sel_eq, hjq] using hj2
        exact (h.rows j r' hj').mono hle (h.idr _ _ hj') (fun b hb => hown b _ hb (by simpa using hj1))
    boxes := fun j b hb => (h.boxes j b hb).mono hle (h.idb _ _ hb) (fun b' hb' => hown b' _ hb' (by simp))
    ownlt := fun b x hx => by
      have hx' : (if some b = v.ownBlock then some (Sum.inl q) else E.own b) = some x := hx
      by_cases hb : some b = v.ownBlock
      · exact h.ownlt b _ (hob b hb)
      · rw [if_neg hb] at hx'; exact h.ownlt b x hx'
    keep := h.keep
    size := h.size
    arg := h.arg
    defers := h.defers
    idr := fun j r' hj => by
      obtain ⟨hj1, hj2⟩ := row_ne hj
      by_cases hjq : j = q
      · exact .inl hjq
      · exact .inr (h.idr j r' (by simpa [St.newRow, sel_eq, hjq] using hj2))
    idb := fun j b hb => .inr (h.idb j b hb)
    glob := h.glob.mono hle
    nests := fun j m hm => by
      rcases nest_or hm with ⟨rfl, rfl⟩ | ⟨hj1, hj2⟩
      · refine .inr ⟨g, c, arr, (hle.rv j (h.idn j n hn)).trans h1, h2, h3, ?_, h5, h6, fun i' x hx' hhi => ?_, ?_⟩
        · show (if some g = v.ownBlock then some (Sum.inl q) else E.own g) = some (.inl j)
          rw [if_neg (fun e => k3 e.symm), h4]
        · obtain ⟨v', q1, q2, q3⟩ := h7 i' x hx' (by rw [hh]; simp)
          refine ⟨v', q1, ?_, q3⟩
          rcases q2 with q2 | ⟨g2, c2, e1, e2, e3, e4, e5, e6⟩
          · exact .inl q2
          · refine .inr ⟨g2, c2, e1, e2, e3, e4.mono hle rfl, ?_, e6⟩
            show (if some g2 = v.ownBlock then some (Sum.inl q) else E.own g2) = some (.inl j)
            rw [if_neg (fun e => by
              have hii : i ≠ i' := fun e' => hhi (by rw [e'])
              exact h8 i i' v v' g2 hii (by rw [hh]; simp) (by rw [hh]; simp) hi (List.getElem?_eq_some_iff.1 hx').1 k1 q1 e.symm (by rw [e1]; simp [Value.ownBlock])), e5]
        · intro i1 i2 v1 v2 b hii hh1 hh2 hl1 hl2 ha1 ha2 hb1
          exact h8 i1 i2 v1 v2 b hii (by rw [hh]; simp) (by rw [hh]; simp) hl1 hl2 ha1 ha2 hb1
      · obtain ⟨hj3, hj4⟩ := nest_sel (S := S) hj2
        exact (h.nests j m hj4).mono hle (h.idn _ _ hj4) (fun b hb => hown b _ hb (by simpa using hj1))
    idn := fun j m hm => by
      rcases nest_or hm with ⟨rfl, rfl⟩ | ⟨hj1, hj2⟩
      · exact .inr (h.idn j n hn)
      · exact .inr (h.idn j m (nest_sel (S := S) hj2).2) }
/-- An inner row is put in. -/
theorem nest_fill (h : RelE C S E a) {id : Nat} {n : NestC} (hn : S.nest id = some n) {i : Nat} (hh : n.hole = some i) (hi : i < n.xs.length) {g m c : Nat} (hv : E.rv id = .slice (some ⟨g, 0, none⟩) m c) {q : Nat} {x : List n.k.den} (hr : S.rows q = some ⟨n.t, n.k, x, false⟩) (hqi : q ≠ id) :
    ∃ arr E', E.w.heap[g]? = some (.cells arr n.e (0, 0)) ∧ i < arr.size ∧ E'.w = E.w.setRow g (arr.toList.take i ++ [E.rv q] ++ arr.toList.drop (i + 1)).toArray ∧ RelE C ((S.kill q).newNest id { n with xs := List.set n.xs i x, hole := none }) E' a ∧ (∀ j, E'.live j ↔ E.live j) ∧ (∀ fz, Fr C E E' [.inl id, .inl q] fz) := by
  rcases h.nests id n hn with ⟨h1, h2⟩ | ⟨g', c', arr, h1, h2, h3, h4, h5, h6, h7, h8⟩
  · rw [h1] at hi; simp at hi
  rw [h1] at hv
  cases hv
  have hia : i < arr.size := by omega
  obtain ⟨arr', ha'⟩ : ∃ arr', arr' = (arr.toList.take i ++ [E.rv q] ++ arr.toList.drop (i + 1)).toArray := ⟨_, rfl⟩
  have hat : ∀ j, arr'[j]? = if j = i then some (E.rv q) else arr[j]? := fun j => by
    rw [ha', List.getElem?_toArray]
    have hl : (arr.toList.take i).length = i := by rw [List.length_take, Array.length_toList]; omega
    by_cases hj : j = i
    · rw [if_pos hj, hj, List.append_assoc, List.getElem?_append_right (by omega), hl]; simp
    · rw [if_neg hj]
      rcases Nat.lt_or_gt_of_ne hj with hlt | hgt
      · rw [List.append_assoc, List.getElem?_append_left (by omega), List.getElem?_take, if_pos hlt]; simp
      · rw [List.getElem?_append_right (by rw [List.length_append, hl]; simp; omega), List.length_append, hl, List.getElem?_drop]
        rw [show i + 1 + (j - (i + [E.rv q].length)) = j by simp; omega]; simp
  have hsa : arr'.size = arr.size := by rw [ha']; simp; omega
  have hgq : E.own g ≠ some (.inl q) := by rw [h4]; intro e; exact hqi (Sum.inl.inj (Option.some.inj e)).symm
  obtain ⟨E', hE'⟩ : ∃ E' : Env, E' = { E with own := fun b => if E.own b = some (.inl q) then some (.inl id) else E.own b, w := E.w.setRow g arr' } := ⟨_, rfl⟩
  have eo : ∀ b, E'.own b = if E.own b = some (.inl q) then some (.inl id) else E.own b := fun b => by rw [hE']
  have ew : E'.w = E.w.setRow g arr' := by rw [hE']
  have el : E'.live = E.live := by rw [hE']
  have er : E'.rv = E.rv := by rw [hE']
  have hsz : E'.w.heap.size = E.w.heap.size := by rw [ew]; exact setRow_size ..
  have hoth : ∀ b, b ≠ g → E'.w.heap[b]? = E.w.heap[b]? := fun b hb => by rw [ew]; exact setRow_other _ _ _ _ hb
  have hF : ∀ b, E.F C b → E'.F C b ∧ E'.w.heap[b]? = E.w.heap[b]? := fun b hb => by
    have hne : b ≠ g := fun e => by rw [e] at hb; rw [hb.1] at h4; cases h4
    exact ⟨⟨by rw [eo, hb.1]; simp, hb.2.1, by rw [hsz]; exact hb.2.2⟩, hoth b hne⟩
  have hle : Env.Le C E E' := ⟨fun j hj => by rw [el]; exact hj, fun j hj => by rw [er], fun j hj => by rw [hE'], hF⟩
  have hown : ∀ b y, E.own b = some y → y ≠ .inl id → y ≠ .inl q → E'.own b = some y ∧ E'.w.heap[b]? = E.w.heap[b]? := fun b y hb hy1 hy2 => ⟨by rw [eo, if_neg (by rw [hb]; intro e; exact hy2 (Option.some.inj e)), hb], hoth b (fun e => by rw [e, h4] at hb; exact hy1 (Option.some.inj hb).symm)⟩
  refine ⟨arr, E', h5, hia, by rw [ew, ha'], ?_, fun j => by rw [el], fun fz => ⟨hle, fun b y hb hy => by
    obtain ⟨e1, e2⟩ := hown b y hb (fun e => hy (by rw [e]; simp)) (fun e => hy (by rw [e]; simp))
    exact ⟨.inl e1, e2⟩⟩⟩
  have hkr : ∀ j r', ((S.kill q).newNest id { n with xs := List.set n.xs i x, hole := none }).rows j = some r' → j ≠ id ∧ j ≠ q ∧ S.rows j = some r' := fun j r' hj => by
    obtain ⟨e1, e2⟩ := row_ne hj
    have e3 : sel j q none (S.rows j) = some r' := e2
    rw [sel_eq] at e3
    split at e3
    · cases e3
    · rename_i hne; exact ⟨e1, hne, e3⟩
  have hkn : ∀ j m', ((S.kill q).newNest id { n with xs := List.set n.xs i x, hole := none }).nest j = some m' → (j = id ∧ m' = { n with xs := List.set n.xs i x, hole := none }) ∨ (j ≠ id ∧ j ≠ q ∧ S.nest j = some m') := fun j m' hj => by
    rcases nest_or hj with e | ⟨e1, e2⟩
    · exact .inl e
    · obtain ⟨e3, e4⟩ := nest_sel (S := S) e2
      exact .inr ⟨e1, e3, e4⟩
  have hqR := h.rows q _ hr
  exact {
    slots := fun t => (h.slots t).mono hle
    rows := fun j r' hj => by
      obtain ⟨e1, e2, e3⟩ := hkr j r' hj
      exact (h.rows j r' e3).mono hle (h.idr _ _ e3) (fun b hb => hown b _ hb (by simpa using e1) (by simpa using e2))
    boxes := fun j b hb => (h.boxes j b hb).mono hle (h.idb _ _ hb) (fun b' hb' => hown b' _ hb' (by simp) (by simp))
    ownlt := fun b y hy => by
      rw [eo] at hy
      rw [hsz]
      by_cases hb : E.own b = some (.inl q)
      · exact h.ownlt b _ hb
      · rw [if_neg hb] at hy; exact h.ownlt b y hy
    keep := by rw [ew]; exact h.keep.write (h.ownlt g _ h4).2 rfl rfl rfl (by rw [setRow_size]; exact Nat.le_refl _) (fun b _ hne => setRow_other _ _ _ _ hne)
    size := h.size
    arg := h.arg
    defers := h.defers
    idr := fun j r' hj => by rw [el]; exact h.idr j r' (hkr j r' hj).2.2
    idb := fun j b hb => by rw [el]; exact h.idb j b hb
    glob := h.glob.mono hle
    nests := fun j m' hm => by
      rcases hkn j m' hm with ⟨rfl, rfl⟩ | ⟨e1, e2, e3⟩
      · have hown2 : ∀ b, E.own b = some (.inl j) → E'.own b = some (.inl j) := fun b hb => by
          rw [eo, if_neg (by rw [hb]; intro e; exact hqi (Sum.inl.inj (Option.some.inj e)).symm), hb]
        refine .inr ⟨g, c, arr', by rw [er, h1]; simp, by simpa using h2, h3, hown2 g h4, by rw [ew]; exact setRow_heap _ _ _ _ _ _ h5, by rw [hsa]; exact h6, fun i' y hy _ => ?_, fun i1 i2 v1 v2 b hii _ _ hl1 hl2 ha1 ha2 hb1 => ?_⟩
        · by_cases hii : i' = i
          · have hy' : y = x := by
              have hy2 : (List.set n.xs i x)[i]? = some y := by
                have hy3 : (List.set n.xs i x)[i']? = some y := hy
                rw [hii] at hy3; exact hy3
              rw [List.getElem?_set_self hi] at hy2
              exact (Option.some.inj hy2).symm
            rw [hy']
            refine ⟨E.rv q, by rw [hat, if_pos hii], ?_, ?_⟩
            · rcases hqR with ⟨f1, f2⟩ | ⟨g2, c2, f1, f2, f3, f4, f5⟩
              · exact .inl ⟨f1, f2⟩
              · rw [if_neg (by simp)] at f5
                have hg2 : g2 ≠ g := fun e => by rw [e] at f5; exact hgq f5.1
                obtain ⟨f6, arr2, f7, f8⟩ := f5
                exact .inr ⟨g2, c2, f1, f2, f3, f4.mono hle (hoth g2 hg2), by rw [eo, if_pos f6], arr2, (hoth g2 hg2).trans f7, f8⟩
            · rcases hqR with ⟨f1, f2⟩ | ⟨g2, c2, f1, f2, f3, f4, f5⟩
              · rw [f2]; simp [Value.ownBlock]
              · rw [if_neg (by simp)] at f5
                rw [f1]
                intro e
                have : g2 = g := by simpa [Value.ownBlock] using e
                rw [this] at f5; exact hgq f5.1
          · rw [List.getElem?_set_ne (Ne.symm hii)] at hy
            obtain ⟨v', q1, q2, q3⟩ := h7 i' y hy (by rw [hh]; intro e; exact hii (Option.some.inj e).symm)
            refine ⟨v', by rw [hat, if_neg hii]; exact q1, ?_, q3⟩
            rcases q2 with q2 | ⟨g2, c2, f1, f2, f3, f4, f5, arr2, f7, f8⟩
            · exact .inl q2
            · have hg2 : g2 ≠ g := fun e => q3 (by rw [f1, e]; rfl)
              exact .inr ⟨g2, c2, f1, f2, f3, f4.mono hle (hoth g2 hg2), hown2 g2 f5, arr2, (hoth g2 hg2).trans f7, f8⟩
        · have hlen : (List.set n.xs i x).length = n.xs.length := List.length_set ..
          rw [hat] at ha1 ha2
          have hq' : ∀ b', (E.rv q).ownBlock = some b' → E.own b' = some (.inl q) := fun b' hb' => by
            rcases hqR with ⟨f1, f2⟩ | ⟨g2, c2, f1, f2, f3, f4, f5⟩
            · rw [f2] at hb'; simp [Value.ownBlock] at hb'
            · rw [if_neg (by simp)] at f5
              rw [f1] at hb'
              have : g2 = b' := by simpa [Value.ownBlock] using hb'
              rw [← this]; exact f5.1
          have hi' : ∀ i' v' b', i' ≠ i → i' < n.xs.length → arr[i']? = some v' → v'.ownBlock = some b' → E.own b' = some (.inl j) := fun i' v' b' hne hl hv' hb' => by
            obtain ⟨v2, q1, q2, _⟩ := h7 i' _ (List.getElem?_eq_getElem hl) (by rw [hh]; intro e; exact hne (Option.some.inj e).symm)
            rw [q1] at hv'; cases hv'
            rcases q2 with ⟨_, f2⟩ | ⟨g2, c2, f1, _, _, _, f5, _⟩
            · rw [f2] at hb'; simp [Value.ownBlock] at hb'
            · rw [f1] at hb'
              have : g2 = b' := by simpa [Value.ownBlock] using hb'
              rw [← this]; exact f5
          by_cases hi1 : i1 = i
          · rw [if_pos hi1] at ha1
            cases ha1
            rw [if_neg (by omega)] at ha2
            intro e
            have e3 := hi' i2 v2 b (by omega) (by simpa using hl2) ha2 e
            have e4 := hq' b hb1
            rw [e3] at e4; exact hqi (Sum.inl.inj (Option.some.inj e4)).symm
          · rw [if_neg hi1] at ha1
            by_cases hi2 : i2 = i
            · rw [if_pos hi2] at ha2
              cases ha2
              intro e
              have e3 := hi' i1 v1 b hi1 (by simpa using hl1) ha1 hb1
              have e4 := hq' b e
              rw [e3] at e4; exact hqi (Sum.inl.inj (Option.some.inj e4)).symm
            · rw [if_neg hi2] at ha2
              exact h8 i1 i2 v1 v2 b hii (by rw [hh]; intro e; exact hi1 (Option.some.inj e).symm) (by rw [hh]; intro e; exact hi2 (Option.some.inj e).symm) (by simpa using hl1) (by simpa using hl2) ha1 ha2 hb1
      · exact (h.nests j m' e3).mono hle (h.idn _ _ e3) (fun b hb => hown b _ hb (by simpa using e1) (by simpa using e2))
    idn := fun j m' hm => by
      rw [el]
      rcases hkn j m' hm with ⟨rfl, rfl⟩ | ⟨e1, e2, e3⟩
      · exact h.idn j n hn
      · exact h.idn j m' e3 }
theorem nest_make {P : Program} (hP : C.P = P) (hT : TyOk P T) (h : RelE C S E a) {t e e' : TypeId} {k : Ki} (hk : T.kind t = some (.list (.list k))) (he : look T.sl t = some e) (hz0 : look T.zo e = some [.c (.slice none 0 0)]) {x y : Operand} {n : Int} (hx : a.eval x = .int .i64 n) (hy : a.eval y = .int .i64 n)
    (h0 : 0 ≤ n) (h1 : n ≤ lim) (hq : ¬ E.live q) (ho : o.op = .makeSlice t x y) :
    ∃ E' v, (execOp a.eval o).run P E.w = .ok (.value v) E'.w ∧ RelE C (S.newNest q ⟨e, e', k, List.replicate n.toNat [], none⟩) E' a ∧ SVR C E' (.row q) v ∧ (∀ id, E'.live id → id = q ∨ E.live id) ∧ ∀ tc fz, Fr C E E' tc fz := by
  subst hP
  obtain ⟨e1, hu, hs, hp, hke, hse⟩ := elem_size hT hk E.w
  have hee := hse e he
  subst hee
  obtain ⟨⟨i, z, hi, hsz, hz, hzv, hby, hby2⟩, _⟩ := hT.kd e _ hke
  obtain ⟨i', z', hi', hz', hzc⟩ := hT.zo e _ hz0
  rw [hi] at hi'
  cases hi'
  rw [hz] at hz'
  cases hz'
  have hzl : z.cells.toList = [.slice none 0 0] := by
    cases hc : z.cells.toList with
    | nil => rw [hc] at hzc; simp [zcB] at hzc
    | cons u us =>
      rw [hc] at hzc
      simp only [zcB, Bool.and_eq_true] at hzc
      have e1 := sameV_eq hzc.1
      cases us with
      | nil => rw [← e1]
      | cons => simp [zcB] at hzc
  have hsz1 : i.size = 1 := hsz
  obtain ⟨m, rfl⟩ : ∃ m : Nat, n = (m : Int) := ⟨n.toNat, by omega⟩
  unfold lim at h1
  have hmm : m ≤ 4294967296 := by omega
  have hbm : i.bytes * m ≤ 281474976710656 := Nat.le_trans (Nat.mul_le_mul hby2 hmm) (by decide)
  have hr := run_make (P := C.P) E.w t e i z hu hi hz .i64 .i64 m m (by omega) (Int.le_refl _) (by
    have h : ((i.bytes * m : Nat) : Int) ≤ 281474976710656 := by omega
    rwa [Int.natCast_mul] at h) (by omega)
  simp only [Int.toNat_natCast] at hr
  have hcs : (madeCells z.cells (m * i.size)) = (List.replicate m (Value.slice none 0 0)).toArray := by
    apply Array.ext'
    have hzs : z.cells.size = i.size := by rw [hsz1, ← Array.length_toList, hzl]; rfl
    rw [← hzs, made_flat z.cells m, hzl]
    clear hr h1 hmm hbm h0 hx hy
    induction m with
    | zero => rfl
    | succ m ih => rw [List.replicate_succ, List.flatten_cons, ih, List.replicate_succ]; rfl
  have hrun : (execOp a.eval o).run C.P E.w = .ok (.value (.slice (some ⟨E.w.heap.size, 0, none⟩) m m)) (E.w.alloc (.cells (List.replicate m (Value.slice none 0 0)).toArray e)) := by
    rw [← hcs]
    simp [execOp, ho, hx, hy, hr]
  have hw := Wider.alloc E.w (.cells (List.replicate m (Value.slice none 0 0)).toArray e)
  have hsize : (E.w.alloc (.cells (List.replicate m (Value.slice none 0 0)).toArray e)).heap.size = E.w.heap.size + 1 := by simp
  simp only [Int.toNat_natCast]
  refine ⟨E.newRow q (.slice (some ⟨E.w.heap.size, 0, none⟩) m m) (some E.w.heap.size) (E.w.alloc (.cells (List.replicate m (Value.slice none 0 0)).toArray e)), _, hrun, h.newNest hq hw (fun b hb => by cases hb; exact ⟨Nat.le_refl _, by rw [hsize]; omega⟩) (.inr ⟨E.w.heap.size, m, (List.replicate m (Value.slice none 0 0)).toArray, ?_, by simp, by unfold maxLen; omega, ?_, heap_alloc_new E.w _, by simp, fun j x hx _ => ?_, fun i1 i2 v1 v2 b _ _ _ _ _ ha1 _ hb1 => ?_⟩), ⟨.inl rfl, by show _ = (if q = q then _ else _); rw [if_pos rfl]⟩, fun id hid => hid, fun tc fz => Fr.new h hq _ _ hw (fun b hb => by cases hb; exact Nat.le_refl _) _⟩
  · show (if q = q then _ else _) = _
    rw [if_pos rfl]; simp
  · show (if some E.w.heap.size = some E.w.heap.size then _ else _) = _
    rw [if_pos rfl]
  · have hj : j < m := by have := (List.getElem?_eq_some_iff.1 hx).1; simpa using this
    refine ⟨.slice none 0 0, by simp [hj], .inl ⟨?_, rfl⟩, by simp [Value.ownBlock]⟩
    have := (List.getElem?_eq_some_iff.1 hx).2
    rw [← this]; simp
  · have hv : v1 = .slice none 0 0 := by
      rw [List.getElem?_toArray, List.getElem?_replicate] at ha1
      split at ha1
      · cases ha1; rfl
      · cases ha1
    rw [hv] at hb1; simp [Value.ownBlock] at hb1
theorem sameOp_eq : ∀ {x y : Operand}, sameOp x y = true → x = y := by
  intro x y h
  unfold sameOp at h
  split at h <;> simp_all
theorem drops_one (E : Env) (id : Nat) : E.drops [id] = E.drop id := by
  have h := drops_cons (E := E) (i := id) (l := [])
  rw [drops_nil] at h
  exact h.symm
/-- What a step on a nest leaves. -/
def NestOut (C : Ctx) (S : St) (E : Env) (a : Act) (o : Oper) (P : Program) {R : Type} (r : R) (K : SL → St → Option R) : Prop :=
  ∃ S' E' s v, K s S' = some r ∧ (S'.nx = S.nx ∧ S'.sl = S.sl) ∧ ((execOp a.eval o).run P E.w = .ok (.value v) E'.w ∨ (v = undef ∧ (execOp a.eval o).run P E.w = .ok .skip E'.w)) ∧ RelE C S' E' a ∧ SLR C E' s v ∧ (∀ id, E'.live id → E.live id ∨ S.nx = id) ∧ ∃ tc fz, Fr C E E' tc fz
theorem nestK_ok {P : Program} (hP : C.P = P) (hT : TyOk P T) (h : RelE C S E a) (hf : ¬ E.live S.nx) {o : Oper} {R : Type} {r : R} {K : SL → St → Option R} (hK : nestK T o S K = some r) : NestOut C S E a o P r K := by
  unfold nestK at hK
  split at hK
  · rename_i t l c ho
    split at hK
    · rename_i n k e hlc hl hk he
      split at hK
      · rename_i e' he' hz
        split at hK
        · rename_i h0
          split at hK
          · rename_i h1
            have hx := VRv.int (eval_one h hl)
            have hy : a.eval c = .int .i64 n := by rw [← sameOp_eq hlc]; exact hx
            obtain ⟨E', v, g1, g2, g3, g4, g5⟩ := nest_make hP hT h hk he (e' := e') hz hx hy h0 h1 hf ho
            exact ⟨_, E', _, v, hK, ⟨rfl, rfl⟩, .inl g1, g2, g3, fun id hid => (g4 id hid).elim (fun h => .inr h.symm) .inl, [], [], g5 _ _⟩
          · cases hK
        · cases hK
      · cases hK
    · cases hK
  · rename_i t x i ho
    split at hK
    · rename_i id ik j hx hi
      have hj : a.eval i = .int ik j := VRv.int (eval_one h hi)
      split at hK
      · rename_i n hn
        split at hK
        · rename_i hk
          split at hK
          · rename_i h0
            split at hK
            · rename_i h1
              replace h0 : @LE.le Int _ 0 j := h0
              replace h1 : @LT.lt Int _ j ((n.xs.length : Nat) : Int) := h1
              obtain ⟨hl, hv⟩ := eval_one h hx
              rcases h.nests id n hn with ⟨e1, e2⟩ | ⟨g, c, arr, e1, _⟩
              · rw [e1] at h1
                simp at h1; omega
              · have g2 := fun w => indexAddr_row hT hk (hv.trans e1) h0 h1 ik w
                subst hP
                refine ⟨_, E, _, Value.pointer (some ⟨g, Int.toNat j * 1 + 0, none⟩), hK, ⟨rfl, rfl⟩, .inl ?_, h, ⟨hl, g, _, c, e1, rfl, by omega⟩, fun id hid => .inl hid, [], [], Fr.refl _ _ _⟩
                simp only [execOp, ho, hj, Sem.run_bind, g2, Result.andThen_ok]
                simp [Ki.sz]
            · cases hK
          · cases hK
        · cases hK
      · cases hK
    · cases hK
  · rename_i t x ho
    split at hK
    · rename_i id i hx
      split at hK
      · rename_i n hn
        split at hK
        · rename_i hh
          split at hK
          · rename_i hk
            obtain ⟨hl, g, m, c, hv, hev, hi⟩ := eval_one h hx
            have hi' : i < n.xs.length := by
              rcases h.nests id n hn with ⟨e1, e2⟩ | ⟨g', c', arr, e1, _⟩
              · rw [e2] at hv; cases hv
              · rw [e1] at hv; cases hv; exact hi
            obtain ⟨v, g1, g2, g3⟩ := nest_take h hf hn hh hi' hv
            have hone1 : T.one t = true := by unfold Tys.one; simp [hk, Ki.agg]
            refine ⟨_, _, _, v, hK, ⟨rfl, rfl⟩, .inl ?_, g2, ⟨.inl rfl, by show _ = (if S.nx = S.nx then _ else _); rw [if_pos rfl]⟩, fun id hid => ?_, _, [], g3 _⟩
            · subst hP
              have hev' : a.eval x = .pointer (some ⟨g, i, none⟩) := by rw [hev]; simp
              simp [execOp, ho, hev', Instr.loadAt, Instr.sureAddr, loadVar, (one_size hT hone1 E.w).2, g1]
              rfl
            · rcases hid with rfl | hid
              · exact .inr rfl
              · exact .inl hid
          · cases hK
        · cases hK
      · cases hK
    · cases hK
  · rename_i t x y ho
    split at hK
    · rename_i id i r' hx hy
      split at hK
      · rename_i n rr hn hr
        split at hK
        · rename_i hfz hb hh
          split at hK
          · rename_i hhi
            rw [hhi] at hh
            split at hK
            · rename_i hkk
              split at hK
              · rename_i hk
                obtain ⟨hl, g, m, c, hv, hev, hi⟩ := eval_one h hx
                obtain ⟨hl2, hv2⟩ := eval_one h hy
                have hi' : i < n.xs.length := by
                  rcases h.nests id n hn with ⟨e1, e2⟩ | ⟨g', c', arr, e1, _⟩
                  · rw [e2] at hv; cases hv
                  · rw [e1] at hv; cases hv; exact hi
                rcases rr with ⟨re, rk, rx, rf⟩
                simp only [Bool.and_eq_true, Bool.not_eq_true'] at hb
                have hre : re = n.t := Nat.eq_of_beq_eq_true hb.1
                have hri : r' ≠ id := fun e => by rw [e] at hb; simp at hb
                simp only at hfz
                subst hre hfz
                simp only [Ki.list.injEq] at hkk
                subst hkk
                obtain ⟨arr, E', k1, k2, k3, k4, k5, k6⟩ := nest_fill h hn hh hi' hv hr hri
                have hone1 : T.one t = true := by unfold Tys.one; simp [hk, Ki.agg]
                have hone2 : (E.rv r').oneCell' = true := by
                  rcases h.rows r' _ hr with ⟨_, e2⟩ | ⟨g', c', e1, _⟩
                  · rw [e2]; rfl
                  · rw [e1]; rfl
                have hcl : (E.rv r').cells.toList = [E.rv r'] := by rw [one_cells hone2]
                have hev' : a.eval x = .pointer (some ⟨g, i, none⟩) := by rw [hev]; simp
                subst hP
                have hst := store_run (one_size hT hone1 E.w).1 (g := g) (o := i) (v := E.rv r') (by rw [hcl]; rfl) (by rw [hcl]; intro u hu; rw [List.mem_singleton.1 hu]; exact hone2) k1 (by rw [hcl]; exact k2)
                rw [hcl, show [E.rv r'].length = 1 from rfl, ← k3] at hst
                exact ⟨_, E', _, undef, hK, ⟨rfl, rfl⟩, .inr ⟨rfl, by simp [execOp, ho, hev', hv2, hst]⟩, k4, trivial, fun id hid => .inl ((k5 id).1 hid), _, [], k6 _⟩
              · cases hK
            · cases hK
          · cases hK
        · cases hK
      · cases hK
    · cases hK
  · rename_i x ho
    split at hK
    · rename_i id hx
      split at hK
      · rename_i n hn
        split at hK
        · rename_i hh hsz
          have hsz' : 0 < n.k.sz := by simpa [Nat.blt_eq] using hsz
          obtain ⟨g1, g2⟩ := nest_freeze h hn hh (eval_one h hx) hsz'
          exact ⟨_, E.drop id, _, a.eval x, hK, ⟨rfl, rfl⟩, .inl (by simp [execOp, ho]; rfl), g1, g2, fun j hj => .inl hj, [], [id], by rw [← drops_one]; exact Fr.drops h [id] []⟩
        · cases hK
      · cases hK
    · cases hK
  · cases hK
end
end Go.Proofs.YtlioalaehkohlaaDoor.Vm
