/- Appends. Conditions: as each theorem states them. -/
import Derived.Deep.AppendSrc
import Derived.Laws.IdiomCopy
import Derived.Test.YtlioalaehkohlaaDoorV11
import Derived.Lib.AppendZeros
namespace Go.Proofs.YtlioalaehkohlaaDoor.Vm
open Go Go.RowKit
set_option linter.unusedVariables false
set_option linter.unusedSimpArgs false
section
variable {C : Ctx} {S : St} {E : Env} {q : Nat} {a : Act} {o : Oper} {R : Type} {T : Tys} {r : R}
theorem kill_new (S : St) (q : Nat) (r : RowC) : (S.kill q).newRow q r = S.newRow q r := by
  unfold St.kill St.newRow
  simp only [St.mk.injEq, and_true, true_and]
  refine ⟨?_, ?_⟩
  · funext j
    rw [sel_eq, sel_eq, sel_eq]
    split <;> rfl
  · funext j
    rw [sel_eq, sel_eq]
    split <;> rfl
def Env.app (E : Env) (id q : Nat) (v' : Value) (w' : World) : Env :=
  { own := fun b => if some b = v'.ownBlock then some (.inl q) else if E.own b = some (.inl id) then none else E.own b, rv := fun j => if j = q then v' else E.rv j, bb := E.bb, w := w', live := fun j => j = q ∨ E.live j }
theorem append_core {P : Program} (hP : C.P = P) (hT : TyOk P T) (h : RelE C S E a) {t e : TypeId} {k : Ki} (hk : T.kind t = some (.list k)) (he : look T.sl t = some e) {id : Nat} (hq : ¬ E.live q) {v1 : Value} {xs : List k.den} {cs : List Value}
    (hown : E.w.ownsRow 0 e k.sz v1 xs.length cs) (hE : ER E.w (E.F C) k xs cs) (hb : ∀ g, v1.ownBlock = some g → E.own g = some (.inl id))
    {ys : List k.den} {v2 : Value} (hy : VRv E.w (E.F C) (.list k) ys v2) (hlim : (xs.length : Int) + (ys.length : Int) ≤ lim) (ty : TypeId) :
    ∃ v' w', (Builtin.append_ #[t, t] ty #[v1, v2]).run P E.w = .ok v' w' ∧ RelE C ((S.kill id).newRow q ⟨e, k, xs ++ ys, false⟩) (E.app id q v' w') a ∧ (∀ fz, Fr C E (E.app id q v' w') [.inl id] fz) ∧ E.w.heap.size ≤ w'.heap.size := by
  subst hP
  obtain ⟨e', hu, hs, hp, hke, hse⟩ := elem_size hT hk E.w
  have hee := hse e he
  subst hee
  obtain ⟨⟨i, z, hi, hsz, hz, hzv, hby, hby2⟩, _⟩ := hT.kd e k hke
  have hzl : z.cells.size = k.sz := by rw [← (hzv E.w (E.F C)).len, Array.length_toList]
  unfold lim at hlim
  have hnm : xs.length + ys.length ≤ 4294967296 := by omega
  have hbm : (xs.length + ys.length) * i.bytes ≤ 140737488355328 := Nat.le_trans (Nat.mul_le_mul hnm hby2) (by decide)
  have h63 : xs.length + ys.length ≤ maxLen := by unfold maxLen; omega
  obtain ⟨A, c, rfl, hl, hm, hh⟩ := list_cells hy
  -- what the append leaves
  have key : ∃ v' w' news, (Builtin.append_ #[t, t] ty #[v1, .slice A ys.length c]).run C.P E.w = .ok v' w' ∧ w'.ownsRow 0 e k.sz v' (xs.length + ys.length) (cs ++ news) ∧ E.w.grownBy w' v1.ownBlock ∧ (v'.ownBlock = v1.ownBlock ∨ v'.ownBlock = some E.w.heap.size) ∧ ER E.w (E.F C) k ys news := by
    have none_case : ys = [] → A = none → ∃ v' w' news, (Builtin.append_ #[t, t] ty #[v1, .slice A ys.length c]).run C.P E.w = .ok v' w' ∧ w'.ownsRow 0 e k.sz v' (xs.length + ys.length) (cs ++ news) ∧ E.w.grownBy w' v1.ownBlock ∧ (v'.ownBlock = v1.ownBlock ∨ v'.ownBlock = some E.w.heap.size) ∧ ER E.w (E.F C) k ys news := by
      intro hy0 hA
      subst hy0
      subst hA
      refine ⟨v1, E.w, [], ?_, by simpa using hown, ⟨rfl, rfl, rfl, Nat.le_refl _, fun _ _ _ => rfl⟩, .inl rfl, rfl⟩
      rcases hown.2 with ⟨rfl, h0⟩ | ⟨g, cap, cur, rfl, _, _, hnc, _⟩
      · simp [Builtin.append_, run_underlying hu, sizeOf, typeInfo, hi, Builtin.lenOf, Builtin.firstCells]
      · simp [Builtin.append_, run_underlying hu, sizeOf, typeInfo, hi, Builtin.lenOf, Builtin.firstCells, hnc, storeCells]
    rcases hh with ⟨hy0, _⟩ | ⟨b, o', ds, rfl, hbF, hED, hcD⟩
    · cases A with
      | none => exact none_case hy0 rfl
      | some ad =>
        subst hy0
        obtain ⟨v', w', g1, g2, g3, _, g4⟩ := run_append_own_at (P := C.P) E.w 0 t ty e i z k.sz i.bytes hu hi hz hsz rfl hzl hp v1 xs.length cs hown ad 0 c [] (by simp) (by simp) (by simp) (by simpa using h63) (by simpa using hbm) (Nat.zero_le _)
        exact ⟨v', w', [], g1, by simpa using g2, g3, g4, rfl⟩
    · obtain ⟨v', w', g1, g2, g3, _, g4⟩ := run_append_own_at (P := C.P) E.w 0 t ty e i z k.sz i.bytes hu hi hz hsz rfl hzl hp v1 xs.length cs hown ⟨b, o', none⟩ ys.length c ds hED.len (fun j u hj => by rw [add_at]; exact hcD j u hj) hED.one h63 hbm (Nat.zero_le _)
      exact ⟨v', w', ds, g1, g2, g3, g4, hED⟩
  obtain ⟨v', w', news, g1, g2, g3, g4, g5⟩ := key
  refine ⟨v', w', g1, ?_⟩
  have hsize := g3.size
  have hown' : ∀ b, some b = v'.ownBlock → (E.own b = some (.inl id) ∨ E.w.heap.size ≤ b) := fun b hbv => by
    rcases g4 with g4 | g4
    · exact .inl (hb b (by rw [← g4]; exact hbv.symm))
    · rw [g4] at hbv; cases hbv; exact .inr (Nat.le_refl _)
  have hheap : ∀ b, b < E.w.heap.size → E.own b ≠ some (.inl id) → w'.heap[b]? = E.w.heap[b]? := fun b hlt hne => g3.block b hlt (fun e => hne (hb b e.symm))
  have hF : ∀ b, E.F C b → (E.app id q v' w').F C b ∧ w'.heap[b]? = E.w.heap[b]? := fun b hbF => by
    have hne : E.own b ≠ some (.inl id) := by rw [hbF.1]; simp
    refine ⟨⟨?_, hbF.2.1, Nat.lt_of_lt_of_le hbF.2.2 hsize⟩, hheap b hbF.2.2 hne⟩
    show (if some b = v'.ownBlock then some (.inl q) else if E.own b = some (.inl id) then none else E.own b) = none
    rw [if_neg (fun e => by
      rcases hown' b e with h5 | h5
      · exact hne h5
      · have := hbF.2.2; omega), if_neg hne, hbF.1]
  have hle : Env.Le C E (E.app id q v' w') := ⟨fun j hj => .inr hj, fun j hj => by show (if j = q then v' else E.rv j) = _; exact if_neg (fun e : j = q => hq (e ▸ hj)), fun _ _ => rfl, hF⟩
  have hkeep : ∀ g x, E.own g = some x → x ≠ .inl id → (E.app id q v' w').own g = some x ∧ (E.app id q v' w').w.heap[g]? = E.w.heap[g]? := fun g x hg hne => by
    have hlt := (h.ownlt g x hg).1
    have hne' : E.own g ≠ some (.inl id) := by rw [hg]; simpa using hne
    refine ⟨?_, hheap g hlt hne'⟩
    show (if some g = v'.ownBlock then some (.inl q) else if E.own g = some (.inl id) then none else E.own g) = some x
    rw [if_neg (fun e => by
      rcases hown' g e with h5 | h5
      · exact hne' h5
      · omega), if_neg hne', hg]
  refine ⟨?_, fun fz => ⟨hle, fun b i hb hi => by
    obtain ⟨e1, e2⟩ := hkeep b i hb (fun e => hi (by rw [e]; simp))
    exact ⟨.inl e1, e2⟩⟩, hsize⟩
  exact {
    slots := fun t => (h.slots t).mono hle
    rows := fun j r' hj => by
      by_cases hjq : j = q
      · subst hjq
        have : (⟨e, k, xs ++ ys, false⟩ : RowC) = r' := by simpa [St.newRow, sel_eq] using hj
        subst this
        rcases g2.2 with ⟨rfl, h0⟩ | ⟨g, cap, cur, rfl, _, hg, hnc, hcm, hcs, htake⟩
        · refine .inl ⟨?_, ?_⟩
          · have h1 : xs.length = 0 := by omega
            have h2 : ys.length = 0 := by omega
            show xs ++ ys = []
            rw [List.eq_nil_of_length_eq_zero h1, List.eq_nil_of_length_eq_zero h2]; rfl
          · show (if j = j then _ else _) = _
            rw [if_pos rfl]
        · refine .inr ⟨g, cap, ?_, ?_, hcm, ?_, ?_⟩
          · show (if j = j then Value.slice (some ⟨g, 0, none⟩) (xs.length + ys.length) cap else _) = Value.slice (some ⟨g, 0, none⟩) (xs ++ ys).length cap
            rw [if_pos rfl, List.length_append]
          · show (xs ++ ys).length ≤ cap
            rw [List.length_append]; exact hnc
          · have hEE := (hE.append g5).mono hF
            have hat : CellsAt w' g 0 (cs ++ news) := fun n v hn => by
              rw [cell_of_row w' g (0 + n) cur e (0, 0) hg, Nat.zero_add]
              rw [← htake, List.getElem?_take] at hn
              split at hn
              · simpa using hn
              · cases hn
            intro n x hx
            obtain ⟨d, e1, e2⟩ := hEE.spread hat n x hx
            exact ⟨d, e1, by rw [Nat.zero_add] at e2; exact e2⟩
          · rw [if_neg (by simp)]
            refine ⟨?_, cur, hg, hcs⟩
            exact if_pos (by simp [Value.ownBlock])
      · have hj' : (if j = id then none else S.rows j) = some r' := by
          simpa [St.newRow, St.kill, sel_eq, hjq] using hj
        split at hj'
        · cases hj'
        · rename_i hjid
          exact (h.rows j r' hj').mono hle (h.idr _ _ hj') (fun g hg => hkeep g _ hg (by simpa using hjid))
    boxes := fun j b hbx => (h.boxes j b hbx).mono hle (h.idb _ _ hbx) (fun g hg => hkeep g _ hg (by simp))
    ownlt := fun b x hx => by
      have hx' : (if some b = v'.ownBlock then some (.inl q) else if E.own b = some (.inl id) then none else E.own b) = some x := hx
      by_cases h5 : some b = v'.ownBlock
      · rcases g4 with g4 | g4
        · have := h.ownlt b _ (hb b (by rw [← g4]; exact h5.symm))
          exact ⟨Nat.lt_of_lt_of_le this.1 hsize, this.2⟩
        · rw [g4] at h5
          cases h5
          refine ⟨?_, .inl h.keep.size⟩
          rcases g2.2 with ⟨rfl, _⟩ | ⟨g, cap, cur, rfl, _, hg, _⟩
          · simp [Value.ownBlock] at g4
          · simp [Value.ownBlock] at g4
            rw [← g4]
            exact (Array.getElem?_eq_some_iff.1 hg).1
      · rw [if_neg h5] at hx'
        split at hx'
        · cases hx'
        · exact ⟨Nat.lt_of_lt_of_le (h.ownlt b x hx').1 hsize, (h.ownlt b x hx').2⟩
    keep := by
      cases hv : v1.ownBlock with
      | none =>
        refine ⟨g3.os.trans h.keep.os, g3.tape.trans h.keep.tape, g3.output.trans h.keep.output, Nat.le_trans h.keep.size hsize, fun b hlt hn => (g3.block b (Nat.lt_of_lt_of_le hlt h.keep.size) (by rw [hv]; simp)).trans (h.keep.block b hlt hn)⟩
      | some g => exact h.keep.write (h.ownlt g _ (hb g hv)).2 g3.os g3.tape g3.output hsize (fun b hlt hne => g3.block b hlt (by rw [hv]; simpa using hne))
    size := h.size
    arg := h.arg
    defers := h.defers
    idr := fun j r' hj => by
      by_cases hjq : j = q
      · exact .inl hjq
      · have hj' : (if j = id then none else S.rows j) = some r' := by simpa [St.newRow, St.kill, sel_eq, hjq] using hj
        split at hj'
        · cases hj'
        · exact .inr (h.idr j r' hj')
    idb := fun j b hbx => .inr (h.idb j b hbx)
    glob := h.glob.mono hle
    nests := fun j n hn => by
      obtain ⟨e1, e2⟩ := nest_sel (S := S.kill id) hn
      obtain ⟨e3, e4⟩ := nest_sel (S := S) e2
      exact (h.nests j n e4).mono hle (h.idn _ _ e4) (fun g hg => hkeep g _ hg (by simpa using e3))
    idn := fun j n hn => by
      obtain ⟨e1, e2⟩ := nest_sel (S := S.kill id) hn
      exact .inr (h.idn j n (nest_sel (S := S) e2).2) }
/-- Behind an append what stood in the row stands there still. -/
theorem append_old {P : Program} {W : World} {t ty e : TypeId} {i : TypeInfo} {z : Value} (hu : P.underlying t = some (.slice e)) (hi : P.info? e = some i) (hz : i.zero = some z) {g n c m : Nat} {cur : Array Value} (hg : W.heap[g]? = some (.cells cur e (0, 0))) (hcs : cur.size = c * i.size) (hn : n ≤ c) {x : Value} {news : List Value} (hs : Src P i.size t x m news W)
    (h63 : n + m ≤ maxLen) (hb : (n + m) * i.bytes ≤ 140737488355328) {v' : Value} {w' : World} (hr : (Builtin.append_ #[t, t] ty #[.slice (some ⟨g, 0, none⟩) n c, x]).run P W = .ok v' w') : ∀ j, j < n * i.size → w'.cell? ⟨g, j, none⟩ = W.cell? ⟨g, j, none⟩ := by
  intro j hj
  have hglt : g < W.heap.size := (Array.getElem?_eq_some_iff.1 hg).1
  by_cases hroom : n + m ≤ c
  · rw [run_append_room_src W t t ty e i hu hi g 0 n c x m news hs hroom (fun k hk => ?_) (fun k hk => ?_)] at hr
    · cases hr
      exact World.cell?_setCells_out g news _ W ⟨g, j, none⟩ (fun _ _ => .inl (by show j < 0 + n * i.size; omega))
    · have hk' : 0 + n * i.size + k < cur.size := by
        rw [hcs]
        have h1 := hs.newsLen
        have h2 : (n + m) * i.size ≤ c * i.size := Nat.mul_le_mul_right _ hroom
        rw [Nat.add_mul] at h2
        omega
      rw [cell_of_row W g _ cur e (0, 0) hg]
      rw [Array.getElem?_eq_getElem hk']; rfl
    · simp [World.frozen?, hg]
  · have hold : (Builtin.firstCells i.size n (.slice (some ⟨g, 0, none⟩) n c)).run P W.drew = .ok (cur.toList.take (n * i.size)).toArray W.drew := by
      refine run_firstCells_some W.drew i.size n ⟨g, 0, none⟩ n c (cur.toList.take (n * i.size)) ?_ ?_
      · rw [List.length_take, Array.length_toList, hcs]
        have := Nat.mul_le_mul_right i.size hn
        omega
      · intro k u hk
        have hk2 := hk
        rw [List.getElem?_take] at hk2
        split at hk2
        · have : (W.drew.cell? (Addr.add ⟨g, 0, none⟩ k)) = W.cell? ⟨g, 0 + k, none⟩ := by simp [add_at]
          rw [this, cell_of_row W g _ cur e (0, 0) hg]
          simpa using hk2
        · cases hk2
    unfold maxLen at h63
    rw [run_append_grow_src W t t ty e i z hu hi hz (some ⟨g, 0, none⟩) n c _ hold x m news hs (by omega) (by omega) (growslice_fits (by omega) hb)] at hr
    cases hr
    have : (W.drew.alloc (.cells (((cur.toList.take (n * i.size)) ++ news).toArray ++ Builtin.zeroCells z.cells (grownCap W (n + m) c e - (n + m))) e)).heap[g]? = W.heap[g]? := by
      exact (Wider.alloc W.drew _).block g hglt
    exact cell_of_heap this j
theorem own_of_row (h : RelE C S E a) {id : Nat} {rr : RowC} (hr : S.rows id = some rr) (hf : rr.fz = false) : ∃ cs, E.w.ownsRow 0 rr.e rr.k.sz (E.rv id) rr.xs.length cs ∧ ER E.w (E.F C) rr.k rr.xs cs ∧ (∀ g, (E.rv id).ownBlock = some g → E.own g = some (.inl id)) := by
  rcases h.rows id rr hr with ⟨h1, h2⟩ | ⟨g, c, h1, h2, h2', h3, h4⟩
  · rw [h2, h1]
    exact ⟨[], ⟨by simp, .inl ⟨rfl, rfl⟩⟩, rfl, fun g hg => by simp [Value.ownBlock] at hg⟩
  · rw [if_neg (by rw [hf]; simp)] at h4
    obtain ⟨hown, arr, hh, hs⟩ := h4
    obtain ⟨cs, g1, g2⟩ := ER.gather (w := E.w) (F := E.F C) (b := g) (o := 0) (xs := rr.xs) (fun i x hx => by
      obtain ⟨ds, g1, g2⟩ := h3 i x hx
      exact ⟨ds, g1, by simpa using g2⟩)
    rw [h1]
    refine ⟨cs, ⟨g1.len, .inr ⟨g, c, arr, rfl, Nat.zero_le _, hh, h2, h2', hs, ?_⟩⟩, g1, fun g' hg' => ?_⟩
    · have := cells_take hh g2
      rw [g1.len] at this
      simpa using this
    · simp [Value.ownBlock] at hg'
      subst hg'
      exact hown
/-- The beginning of a row of one's own is one. -/
theorem keep_core (h : RelE C S E a) {id : Nat} {rr : RowC} (hr : S.rows id = some rr) (hf : rr.fz = false) (hq : ¬ E.live q) {m : Nat} (hm : m ≤ rr.xs.length) {v' : Value} (hv : (E.rv id = .slice none 0 0 ∧ v' = .slice none 0 0 ∧ rr.xs = []) ∨ ∃ g n c, E.rv id = .slice (some ⟨g, 0, none⟩) n c ∧ v' = .slice (some ⟨g, 0, none⟩) m c) :
    RelE C ((S.kill id).newRow q ⟨rr.e, rr.k, rr.xs.take m, false⟩) (E.app id q v' E.w) a ∧ (∀ fz, Fr C E (E.app id q v' E.w) [.inl id] fz) := by
  have hob : ∀ b, some b = v'.ownBlock → E.own b = some (.inl id) := fun b hb => by
    rcases hv with ⟨_, e, _⟩ | ⟨g, n, c, e1, e2⟩
    · rw [e] at hb; simp [Value.ownBlock] at hb
    · rw [e2] at hb
      have hb' : b = g := by simpa [Value.ownBlock] using hb
      subst hb'
      rcases h.rows id rr hr with ⟨_, f2⟩ | ⟨g', c', f1, _, _, _, f4⟩
      · rw [f2] at e1; cases e1
      · rw [f1] at e1; cases e1
        rw [if_neg (by rw [hf]; simp)] at f4
        exact f4.1
  have hF : ∀ b, E.F C b → (E.app id q v' E.w).F C b ∧ E.w.heap[b]? = E.w.heap[b]? := fun b hbF => by
    refine ⟨⟨?_, hbF.2.1, hbF.2.2⟩, rfl⟩
    show (if some b = v'.ownBlock then some (.inl q) else if E.own b = some (.inl id) then none else E.own b) = none
    rw [if_neg (fun e => by have := hob b e; rw [hbF.1] at this; cases this), if_neg (by rw [hbF.1]; simp), hbF.1]
  have hle : Env.Le C E (E.app id q v' E.w) := ⟨fun j hj => .inr hj, fun j hj => by show (if j = q then v' else E.rv j) = _; exact if_neg (fun e : j = q => hq (e ▸ hj)), fun _ _ => rfl, hF⟩
  have hkeep : ∀ g x, E.own g = some x → x ≠ .inl id → (E.app id q v' E.w).own g = some x ∧ (E.app id q v' E.w).w.heap[g]? = E.w.heap[g]? := fun g x hg hne => by
    refine ⟨?_, rfl⟩
    show (if some g = v'.ownBlock then some (.inl q) else if E.own g = some (.inl id) then none else E.own g) = some x
    rw [if_neg (fun e => hne (by have := hob g e; rw [hg] at this; exact Option.some.inj this)), if_neg (by rw [hg]; simpa using hne), hg]
  refine ⟨?_, fun fz => ⟨hle, fun b i hb hi => by
    obtain ⟨e1, e2⟩ := hkeep b i hb (fun e => hi (by rw [e]; simp))
    exact ⟨.inl e1, e2⟩⟩⟩
  exact {
    slots := fun t => (h.slots t).mono hle
    rows := fun j r' hj => by
      by_cases hjq : j = q
      · subst hjq
        have : (⟨rr.e, rr.k, rr.xs.take m, false⟩ : RowC) = r' := by simpa [St.newRow, sel_eq] using hj
        subst this
        rcases hv with ⟨_, e, e0⟩ | ⟨g, n, c, e1, e2⟩
        · refine .inl ⟨by rw [e0]; simp, ?_⟩
          show (if j = j then v' else _) = _
          rw [if_pos rfl, e]
        · rcases h.rows id rr hr with ⟨_, f2⟩ | ⟨g', c', f1, f2, f3, f4, f5⟩
          · rw [f2] at e1; cases e1
          · rw [f1] at e1; cases e1
            rw [if_neg (by rw [hf]; simp)] at f5
            refine .inr ⟨g, c, ?_, ?_, f3, fun i x hx => ?_, ?_⟩
            · show (if j = j then v' else _) = Value.slice (some ⟨g, 0, none⟩) (rr.xs.take m).length c
              rw [if_pos rfl, e2, List.length_take, Nat.min_eq_left hm]
            · show (rr.xs.take m).length ≤ c
              rw [List.length_take]; omega
            · have hx' : rr.xs[i]? = some x := by
                rw [List.getElem?_take] at hx
                split at hx
                · exact hx
                · cases hx
              obtain ⟨ds, k1, k2⟩ := f4 i x hx'
              exact ⟨ds, k1.mono hF, k2⟩
            · rw [if_neg (by simp)]
              exact ⟨if_pos (by rw [e2]; simp [Value.ownBlock]), f5.2⟩
      · have hj' : (if j = id then none else S.rows j) = some r' := by simpa [St.newRow, St.kill, sel_eq, hjq] using hj
        split at hj'
        · cases hj'
        · rename_i hjid
          exact (h.rows j r' hj').mono hle (h.idr _ _ hj') (fun g hg => hkeep g _ hg (by simpa using hjid))
    boxes := fun j b hbx => (h.boxes j b hbx).mono hle (h.idb _ _ hbx) (fun g hg => hkeep g _ hg (by simp))
    ownlt := fun b x hx => by
      have hx' : (if some b = v'.ownBlock then some (.inl q) else if E.own b = some (.inl id) then none else E.own b) = some x := hx
      by_cases h5 : some b = v'.ownBlock
      · exact h.ownlt b _ (hob b h5)
      · rw [if_neg h5] at hx'
        split at hx'
        · cases hx'
        · exact h.ownlt b x hx'
    keep := h.keep
    size := h.size
    arg := h.arg
    defers := h.defers
    idr := fun j r' hj => by
      by_cases hjq : j = q
      · exact .inl hjq
      · have hj' : (if j = id then none else S.rows j) = some r' := by simpa [St.newRow, St.kill, sel_eq, hjq] using hj
        split at hj'
        · cases hj'
        · exact .inr (h.idr j r' hj')
    idb := fun j b hbx => .inr (h.idb j b hbx)
    glob := h.glob.mono hle
    nests := fun j n hn => by
      obtain ⟨e1, e2⟩ := nest_sel (S := S.kill id) hn
      obtain ⟨e3, e4⟩ := nest_sel (S := S) e2
      exact (h.nests j n e4).mono hle (h.idn _ _ e4) (fun g hg => hkeep g _ hg (by simpa using e3))
    idn := fun j n hn => by
      obtain ⟨e1, e2⟩ := nest_sel (S := S.kill id) hn
      exact .inr (h.idn j n (nest_sel (S := S) e2).2) }
def appTc : SV → Nat → List (Nat ⊕ Nat)
  | .row id, _ => [.inl id]
  | _, q => [.inl q]
theorem appendK_ok {P : Program} (hP : C.P = P) (hT : TyOk P T) (h : RelE C S E a) (hq : ¬ E.live q) {t u : TypeId} {s1 s2 : SV} {v1 v2 : Value} (h1a : SVR C E s1 v1) (h2 : SVR C E s2 v2) {K : SV → St → Option R} {sh : Bool} (hK : appendK T sh t u S s1 s2 q K = some r) (ty : TypeId) :
    ∃ S' E' v' s', K s' S' = some r ∧ (S'.nx = S.nx ∧ S'.sl = S.sl) ∧ (Builtin.append_ #[t, u] ty #[v1, v2]).run P E.w = .ok v' E'.w ∧ RelE C S' E' a ∧ SVR C E' s' v' ∧ (∀ id, E'.live id → id = q ∨ E.live id) ∧ (∃ fz, Fr C E E' (appTc s1 q) fz) := by
  unfold appendK at hK
  split at hK
  · rename_i k e htu hk he
    have htu' := Nat.eq_of_beq_eq_true htu
    subst htu'
    have fin : ∀ (id : Nat) (v' : Value) (w' : World) (E1 : Env), E1.live = E.live → SVR C (E1.app id q v' w') (.row q) v' ∧ ∀ j, (E1.app id q v' w').live j → j = q ∨ E.live j := fun id v' w' E1 hl => ⟨⟨.inl rfl, by show v' = (if q = q then v' else _); rw [if_pos rfl]⟩, fun j hj => by
      rcases hj with hj | hj
      · exact .inl hj
      · rw [hl] at hj; exact .inr hj⟩
    unfold appK at hK
    split at hK
    · obtain ⟨ys, fz, hK1, hy⟩ := rdK_ok (C := C) hK
      split at hK1
      · rename_i hlim
        have hv1 : v1 = .slice none 0 0 := h1a
        subst hv1
        have hyv := hy h h2 (fun i hi => hi)
        obtain ⟨v', w', g1, g2⟩ := append_core hP hT (h.frs (l := fz)) hk he (id := q) (q := q) hq (v1 := .slice none 0 0) (xs := []) (cs := []) ⟨by simp, .inl ⟨rfl, rfl⟩⟩ rfl (fun g hg => by simp [Value.ownBlock] at hg) hyv (by simpa using hlim) ty
        obtain ⟨g2, gf, gsz⟩ := g2
        rw [kill_new] at g2
        have hK2 : K (.row q) ((S.frs fz).newRow q ⟨e, k, [] ++ ys, false⟩) = some r := by cases sh <;> exact hK1
        exact ⟨_, (E.drops fz).app q q v' w', v', _, hK2, ⟨nx_frs fz S, frs_sl fz S⟩, g1, g2, (fin q v' w' (E.drops fz) rfl).1, (fin q v' w' (E.drops fz) rfl).2, fz, (Fr.drops h fz _).trans (gf fz)⟩
      · cases hK1
    · rename_i id
      split at hK
      · rename_i rr hrr
        split at hK
        · rename_i hf hbe
          split at hK
          · rename_i hkk
            subst hkk
            obtain ⟨ys, fz, hK1, hy⟩ := rdK_ok (C := C) hK
            split at hK1
            · cases hK1
            · rename_i hfz
              split at hK1
              · rename_i hlim
                have hfz' : fz.contains id = false := by simpa using hfz
                have hee := Nat.eq_of_beq_eq_true hbe
                have hyv := hy h h2 (fun i hi => hi)
                obtain ⟨cs, o1, o2, o3⟩ := own_of_row (h.frs (l := fz)) (rows_frs hrr hfz') hf
                rw [hee] at o1
                obtain ⟨v', w', g1, g2⟩ := append_core hP hT (h.frs (l := fz)) hk he (id := id) (q := q) hq o1 o2 o3 hyv hlim ty
                obtain ⟨g2, gf, gsz⟩ := g2
                rw [h1a.2]
                cases sh with
                | true =>
                  simp only [hrr] at hK1
                  have hne : id ≠ q := fun e => hq (e ▸ h.idr id rr hrr)
                  have hrr' := rows_frs (l := fz) hrr hfz'
                  have h3 := g2.frs (l := [q])
                  have hFF := gf []
                  have hle2 : Env.Le C ((E.drops fz).app id q v' w') (((E.drops fz).app id q v' w').drops [q]) := le_drops [q]
                  have hq1 : (((S.frs fz).kill id).newRow q ⟨e, rr.k, rr.xs ++ ys, false⟩).rows q = some ⟨e, rr.k, rr.xs ++ ys, false⟩ := by show sel q q _ _ = _; rw [sel_eq, if_pos rfl]
                  have hval := row_shared g2 hq1 (l := [q]) (by simp)
                  have hrvq : ((E.drops fz).app id q v' w').rv q = v' := if_pos rfl
                  rw [hrvq] at hval
                  refine ⟨_, ((E.drops fz).app id q v' w').drops [q], v', _, hK1, ⟨nx_frs fz S, frs_sl fz S⟩, g1, ?_, hval, fun j hj => ?_, q :: fz, ?_⟩
                  · have hrow : RowR C (((E.drops fz).app id q v' w').drops [q]) id ⟨rr.e, rr.k, rr.xs, true⟩ := by
                      have hrv : (((E.drops fz).app id q v' w').drops [q]).rv id = E.rv id := if_neg hne
                      rcases (h.frs (l := fz)).rows id rr hrr' with ⟨h4, h5⟩ | ⟨g, c, h4, h5, h6, h7, h8⟩
                      · exact .inl ⟨h4, hrv.trans h5⟩
                      · rw [if_neg (by rw [hf]; simp)] at h8
                        obtain ⟨ho, arr, hg, hcs⟩ := h8
                        have hglt : g < E.w.heap.size := (Array.getElem?_eq_some_iff.1 hg).1
                        have hcell : ∀ j, j < rr.xs.length * rr.k.sz → w'.cell? ⟨g, j, none⟩ = E.w.cell? ⟨g, j, none⟩ := by
                          obtain ⟨e', hu, _, hp, hke, hse⟩ := elem_size hT hk E.w
                          have hee' := hse e he
                          subst hee'
                          obtain ⟨⟨i, z, hi, hsz, hz, hzv, hby, hby2⟩, _⟩ := hT.kd e _ hke
                          unfold lim at hlim
                          have hnm : rr.xs.length + ys.length ≤ 4294967296 := by omega
                          have hbm : (rr.xs.length + ys.length) * i.bytes ≤ 140737488355328 := Nat.le_trans (Nat.mul_le_mul hnm hby2) (by decide)
                          have h63 : rr.xs.length + ys.length ≤ maxLen := by unfold maxLen; omega
                          have hrun := g1
                          rw [show (E.drops fz).rv id = E.rv id from rfl] at hrun
                          have h4' : E.rv id = .slice (some ⟨g, 0, none⟩) rr.xs.length c := h4
                          rw [h4'] at hrun
                          obtain ⟨A, c2, hv2, _, _, hh⟩ := list_cells hyv
                          rw [hv2] at hrun
                          rw [← hsz]
                          have hsrc : ∃ news, Src P i.size t (.slice A ys.length c2) ys.length news E.w := by
                            rcases hh with ⟨hy0, _⟩ | ⟨b, o', ds, rfl, hbF, hED, hcD⟩
                            · cases A with
                              | none => rw [hy0]; exact ⟨[], Src.ofNil E.w hu c2⟩
                              | some ad => rw [hy0]; exact ⟨[], Src.ofSlice E.w hu ad 0 c2 [] (by simp) (by simp) (by simp)⟩
                            · exact ⟨ds, Src.ofSlice E.w hu ⟨b, o', none⟩ ys.length c2 ds (by rw [hsz]; exact hED.len) (fun j u hj => by rw [add_at]; exact hcD j u hj) hED.one⟩
                          obtain ⟨news, hsrc⟩ := hsrc
                          exact append_old hu hi hz (hee ▸ hg) (by rw [hsz]; exact hcs) h5 hsrc h63 hbm hrun
                        refine .inr ⟨g, c, hrv.trans h4, h5, h6, fun i x hx => ?_, ?_⟩
                        · obtain ⟨ds, k1, k2⟩ := h7 i x hx
                          refine ⟨ds, k1.mono (fun b hb => ?_), fun j u hj => ?_⟩
                          · obtain ⟨m1, m2⟩ := hFF.le.F b hb
                            obtain ⟨m3, m4⟩ := hle2.F b m1
                            exact ⟨m3, m4.trans m2⟩
                          · have hjl : j < ds.length := (List.getElem?_eq_some_iff.1 hj).1
                            rw [k1.len] at hjl
                            have hil : i < rr.xs.length := (List.getElem?_eq_some_iff.1 hx).1
                            have hb1 : i * rr.k.sz + j < rr.xs.length * rr.k.sz := by
                              have := Nat.mul_le_mul_right rr.k.sz (Nat.succ_le_of_lt hil)
                              rw [Nat.succ_mul] at this
                              omega
                            exact (hcell _ hb1).trans (k2 j u hj)
                        · rw [if_pos rfl]
                          have hou := (h.frs (l := fz)).ownlt g _ ho
                          refine ⟨?_, .inr hou.2, Nat.lt_of_lt_of_le hou.1 ?_⟩
                          · show (match ((E.drops fz).app id q v' w').own g with | some (.inl i) => if [q].contains i then none else some (Sum.inl i) | x => x) = none
                            show (match (if some g = v'.ownBlock then some (Sum.inl q) else if (E.drops fz).own g = some (.inl id) then none else (E.drops fz).own g) with | some (.inl i) => if [q].contains i then none else some (Sum.inl i) | x => x) = none
                            by_cases hgv : some g = v'.ownBlock
                            · rw [if_pos hgv]; simp
                            · rw [if_neg hgv, if_pos ho]
                          · exact gsz
                    exact { h3 with
                      slots := fun t => by
                        have := h3.slots t
                        rw [frs_sl] at this
                        show SLR C _ ((S.frs fz).sl t) _
                        exact this
                      rows := fun j r' hj => by
                        have hj' : sel j id (some (⟨rr.e, rr.k, rr.xs, true⟩ : RowC)) ((S.frs fz).rows j) = some r' := hj
                        rw [sel_eq] at hj'
                        by_cases hji : j = id
                        · rw [if_pos hji] at hj'
                          cases hj'
                          rw [hji]; exact hrow
                        · rw [if_neg hji] at hj'
                          have hjq : j ≠ q := fun e => hq (e ▸ (h.frs (l := fz)).idr j r' hj')
                          have h9 : (((S.frs fz).kill id).newRow q ⟨e, rr.k, rr.xs ++ ys, false⟩).rows j = some r' := by
                            show sel j q _ (sel j id none ((S.frs fz).rows j)) = _
                            rw [sel_eq, if_neg hjq, sel_eq, if_neg hji]; exact hj'
                          exact h3.rows j r' (rows_frs h9 (by simp [hjq]))
                      nests := fun j n hn => by
                        obtain ⟨e1, e2⟩ := nest_sel (S := S.frs fz) hn
                        have e3 : j ≠ q := fun e => hq (e ▸ (h.frs (l := fz)).idn j n e2)
                        exact h3.nests j n (by show sel j q none (sel j q none (sel j id none ((S.frs fz).nest j))) = some n; rw [sel_eq, if_neg e3, sel_eq, if_neg e3, sel_eq, if_neg e1]; exact e2)
                      idn := fun j n hn => .inr ((h.frs (l := fz)).idn j n (nest_sel (S := S.frs fz) hn).2)
                      boxes := fun j b hb => h3.boxes j b hb
                      idr := fun j r' hj => by
                        have hj' : sel j id (some (⟨rr.e, rr.k, rr.xs, true⟩ : RowC)) ((S.frs fz).rows j) = some r' := hj
                        rw [sel_eq] at hj'
                        by_cases hji : j = id
                        · rw [hji]; exact .inr (h.idr id rr hrr)
                        · rw [if_neg hji] at hj'
                          exact .inr ((h.frs (l := fz)).idr j r' hj')
                      idb := fun j b hb => h3.idb j b hb }
                  · rcases (fin id v' w' (E.drops fz) rfl).2 j hj with h4 | h4
                    · exact .inl h4
                    · exact .inr h4
                  · have f1 : Fr C E (E.drops fz) (appTc (.row id) q) (q :: fz) := (Fr.drops h fz _).wider (fun j hj => List.mem_cons_of_mem _ hj)
                    have f2 : Fr C (E.drops fz) ((E.drops fz).app id q v' w') (appTc (.row id) q) (q :: fz) := gf _
                    have f3 : Fr C ((E.drops fz).app id q v' w') (((E.drops fz).app id q v' w').drops [q]) (appTc (.row id) q) (q :: fz) := (Fr.drops g2 [q] _).wider (fun j hj => by simp at hj; simp [hj])
                    exact (f1.trans f2).trans f3
                | false =>
                exact ⟨_, (E.drops fz).app id q v' w', v', _, hK1, ⟨nx_frs fz S, frs_sl fz S⟩, g1, g2, (fin id v' w' (E.drops fz) rfl).1, (fin id v' w' (E.drops fz) rfl).2, fz, (Fr.drops h fz _).trans (gf fz)⟩
              · cases hK1
          · cases hK
        · cases hK
      · cases hK
    · cases hK
  · rename_i k e htu hk he
    split at hK
    · rename_i kx n ku hu'
      split at hK
      · rename_i h0
        split at hK
        · rename_i h1
          replace h0 : @LT.lt Int _ 0 n := h0
          replace h1 : @LE.le Int _ n lim := h1
          unfold lim at h1
          subst hP
          obtain ⟨e', hu, hs, hp, hke, hse⟩ := elem_size hT hk E.w
          have hee := hse e he
          subst hee
          obtain ⟨⟨i, z, hi, hsz, hz, hzv, hby, hby2⟩, _⟩ := hT.kd e k hke
          have hun : C.P.underlying u = some (.int ku) := (hT.kd u _ hu').2
          have e1 : v1 = .slice none 0 0 := h1a
          have e2 : v2 = .int kx n := VRv.int h2
          subst e1; subst e2
          obtain ⟨m, rfl⟩ : ∃ m : Nat, n = (m : Int) := ⟨Int.toNat n, (Int.toNat_of_nonneg (Int.le_of_lt h0)).symm⟩
          have hm0 : 0 < m := by omega
          have hmm : m ≤ 4294967296 := by omega
          have hv := hzv E.w (E.F C)
          have hzl : z.cells.size = k.sz := by rw [← hv.len, Array.length_toList]
          have hr := Lib.run_append_nil_zeros (P := C.P) E.w t u ty e i z kx ku hu hun hi hz m hm0 (by rw [hsz]; exact hp) (by omega) (Nat.le_trans (Nat.mul_le_mul hmm hby2) (by decide))
          have hcap := grownCap_max E.w m e (by unfold maxLen; omega)
          have hzc : ∀ q, (Builtin.zeroCells z.cells q).toList = (List.replicate q z.cells.toList).flatten := fun q => by
            have := made_flat z.cells q
            rw [← this]
            rfl
          obtain ⟨cs, g1, g2⟩ := ER.rep hv m
          have hw2 : Wider E.w E.w.drew := ⟨rfl, rfl, rfl, Nat.le_refl _, fun _ _ => rfl⟩
          have hR := row_made h hq (e := e) g1 hw2 (c := grownCap E.w m 0 e) (by simpa using hcap.1) hcap.2 (Builtin.zeroCells z.cells (grownCap E.w m 0 e - m)).toList (by
            rw [List.length_append, g1.len, List.length_replicate, Array.length_toList, size_zeroCells, hzl, ← Nat.add_mul]
            congr 1
            have := hcap.1
            omega)
          have hw3 : E.w.drew.alloc (.cells (cs ++ (Builtin.zeroCells z.cells (grownCap E.w m 0 e - m)).toList).toArray e) = E.w.drew.alloc (.cells (Builtin.zeroCells z.cells m ++ Builtin.zeroCells z.cells (grownCap E.w m 0 e - m)) e) := by
            congr 2
            apply Array.ext'
            rw [g2, ← hzc]
            simp
          rw [hw3] at hR
          simp only [List.length_replicate] at hR
          simp only [Int.toNat_natCast] at hK
          refine ⟨_, _, _, _, hK, ⟨rfl, rfl⟩, hr, hR, row_new (C := C) _ _ _ _ _, fun id hid => ?_, [], Fr.new h hq _ _ (hw2.trans (Wider.alloc _ _)) (fun b hb => by cases hb; exact hw2.size) _⟩
          rcases hid with rfl | hid
          · exact .inl rfl
          · exact .inr hid
        · cases hK
      · cases hK
    · cases hK
  · cases hK
end
end Go.Proofs.YtlioalaehkohlaaDoor.Vm
