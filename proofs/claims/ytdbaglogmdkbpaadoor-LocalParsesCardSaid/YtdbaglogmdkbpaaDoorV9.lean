/- Boxes, conversions, appends and stores. Conditions: as each theorem states them. -/
import Derived.Test.YtdbaglogmdkbpaaDoorV8
namespace Go.Proofs.YtdbaglogmdkbpaaDoor.Vm
open Go Go.RowKit
set_option linter.unusedVariables false
set_option linter.unusedSimpArgs false
section
variable {C : Ctx} {S : St} {E : Env} {q : Nat} {a : Act} {o : Oper} {R : Type} {T : Tys} {r : R}
/-- A struct's cells, each for itself. -/
theorem cellsSV_ok : ∀ {k : Ki} {x : k.den} {cs : List Value}, VR E.w (E.F C) k x cs → SVsR C E (cellsSV k x) cs
  | .unit, x, cs, h => by cases h; exact ⟨rfl, fun i s v h1 h2 => by simp at h2⟩
  | .int ik, x, cs, h => by
    cases h
    exact ⟨rfl, fun i s v h1 h2 => by
      cases i with
      | zero => simp [cellsSV] at h1 h2; subst h1; subst h2; exact VRv.of_int _ _ _ _
      | succ i => simp at h2⟩
  | .bool, x, cs, h => by
    cases h
    exact ⟨rfl, fun i s v h1 h2 => by
      cases i with
      | zero => simp [cellsSV] at h1 h2; subst h1; subst h2; exact VRv.of_bool _ _ _
      | succ i => simp at h2⟩
  | .str, x, cs, h => by
    cases h
    exact ⟨rfl, fun i s v h1 h2 => by
      cases i with
      | zero => simp [cellsSV] at h1 h2; subst h1; subst h2; exact VRv.of_str _ _ _
      | succ i => simp at h2⟩
  | .list k, x, cs, h => by
    have hl := h.len
    obtain ⟨u, rfl⟩ := List.length_eq_one_iff.1 hl
    exact ⟨rfl, fun i s v h1 h2 => by
      cases i with
      | zero =>
        simp [cellsSV] at h1 h2
        subst h1; subst h2
        show VRv E.w (E.F C) (.list k) x u
        unfold VRv
        rw [if_neg (by simp [Ki.agg])]
        exact h
      | succ i => simp at h2⟩
  | .pair k1 k2, x, cs, h => by
    obtain ⟨c1, c2, rfl, h1, h2⟩ := h
    have g1 := cellsSV_ok h1
    have g2 := cellsSV_ok h2
    refine ⟨by simp [cellsSV, g1.1, g2.1], fun i s v hs hv => ?_⟩
    unfold cellsSV at hs
    by_cases hi : i < c1.length
    · rw [List.getElem?_append_left hi] at hv
      rw [List.getElem?_append_left (by rw [← g1.1]; exact hi)] at hs
      exact g1.2 i s v hs hv
    · rw [List.getElem?_append_right (by omega)] at hv
      rw [List.getElem?_append_right (by rw [← g1.1]; omega), ← g1.1] at hs
      exact g2.2 _ s v hs hv
theorem SVsR.mono' {E E' : Env} (h : Env.Le C E E') {ss : List SV} {vs : List Value} (hs : SVsR C E ss vs) : SVsR C E' ss vs := hs.mono h
/-- A box is made. -/
theorem box_made (h : RelE C S E a) {id : Nat} (hid : ¬ E.live id) {t : TypeId} {ss : List SV} {cs : List Value} (hs : SVsR C E ss cs) (h1 : ∀ u ∈ cs, u.oneCell' = true) :
    RelE C (S.newBox id ⟨t, ss⟩) (E.newBox id E.w.heap.size (E.w.alloc (.cells cs.toArray t))) a := by
  have hww : Wider E.w (E.w.alloc (.cells cs.toArray t)) := Wider.alloc _ _
  have hsize : (E.w.alloc (.cells cs.toArray t)).heap.size = E.w.heap.size + 1 := by simp
  have hle := Env.le_newBox (C := C) hid hww (Nat.le_refl _)
  have hbb : (E.newBox id E.w.heap.size (E.w.alloc (.cells cs.toArray t))).bb id = E.w.heap.size := by
    show (if id = id then _ else _) = _
    rw [if_pos rfl]
  refine h.newBox hid hww ⟨Nat.le_refl _, by rw [hsize]; omega⟩ ⟨?_, cs.toArray, ?_, ?_, ?_⟩
  · rw [hbb]
    show (if E.w.heap.size = E.w.heap.size then _ else _) = _
    rw [if_pos rfl]
  · rw [hbb]; exact heap_alloc_new E.w _
  · simpa using hs.mono hle
  · simpa using h1
theorem box_new (E : Env) (id g : Nat) (w' : World) : SLR C (E.newBox id g w') (.one (.ptr id 0)) (.pointer (some ⟨g, 0, none⟩)) := ⟨.inl rfl, by
  show _ = Value.pointer (some ⟨(if id = id then g else _), 0, none⟩)
  rw [if_pos rfl]⟩
theorem constV_list : ∀ cs : List Value, SVsR C E (cs.map constV) cs := fun cs => ⟨by simp, fun i s v h1 h2 => by
  rw [List.getElem?_map, h2] at h1
  simp at h1
  subst h1
  unfold constV
  split
  · exact VRv.of_int _ _ _ _
  · exact VRv.of_bool _ _ _
  · exact VRv.of_str _ _ _
  · rfl
  · trivial⟩
theorem alloc_ok {P : Program} (hP : C.P = P) (hT : TyOk P T) (h : RelE C S E a) {t : TypeId} {cs : List Value} (hz : look T.zo t = some cs) (hq : ¬ E.live q) (ho : o.op = .alloc t) :
    OpOk C S E q a o { v := .one (.ptr q 0), nb := [⟨t, cs.map constV⟩] } := by
  subst hP
  obtain ⟨i, z, hi, hz1, hz2, h1⟩ := hT.zo t cs hz
  have hrun : (execOp a.eval o).run C.P E.w = .ok (.value (.pointer (some ⟨E.w.heap.size, 0, none⟩))) (E.w.alloc (.cells cs.toArray t)) := by
    rw [← hz2]
    simp [execOp, ho, Instr.alloc, zeroValue, typeInfo, hi, hz1, newVar, newRow]
  refine ok_run hrun ⟨_, rfl, box_made h hq (constV_list cs) h1, box_new _ _ _ _, fun id hid => ?_, Fr.newBox h hq (Wider.alloc _ _) (Nat.le_refl _) _⟩
  rcases hid with rfl | hid
  · exact .inr ⟨Nat.le_refl _, by omega⟩
  · exact .inl hid
/-- What a value's cells are. -/
theorem boxCells_ok {s : SV} {v : Value} (h : SVR C E s v) (hu : s = .undef ∨ s = .gone → v.oneCell' = true) (hr : ∀ id, s = .row id → v.oneCell' = true) : SVsR C E (boxCells s) v.cells.toList ∧ ∀ u ∈ v.cells.toList, u.oneCell' = true := by
  have one : ∀ {s : SV}, SVR C E s v → v.oneCell' = true → SVsR C E [s] v.cells.toList ∧ ∀ u ∈ v.cells.toList, u.oneCell' = true := fun {s} hs hv => by
    have hc : v.cells = #[v] := by cases v <;> simp [Value.oneCell'] at hv <;> rfl
    rw [hc]
    exact ⟨⟨rfl, fun i s' v' h1 h2 => by
      cases i with
      | zero => simp at h1 h2; subst h1; subst h2; exact hs
      | succ i => simp at h2⟩, fun u hu => by simp at hu; subst hu; exact hv⟩
  cases s with
  | val k x => exact ⟨cellsSV_ok (VR.sz1 h), fun u hu => (VR.sz1 h).one u hu⟩
  | nn k xs => exact one h (by obtain ⟨_, ad, n, c, e⟩ := h; rw [e]; rfl)
  | undef => exact one h (hu (.inl rfl))
  | gone => exact one h (hu (.inr rfl))
  | row id => exact one h (hr id rfl)
  | nil => exact one h (by have : v = .slice none 0 0 := h; rw [this]; rfl)
  | ptr b o => exact one h (by rw [h.2]; rfl)
  | elem id sz i o => exact one h (by obtain ⟨_, g, n, c, _, rfl, _⟩ := h; rfl)
  | ref k x => exact one h (by obtain ⟨b, o, ds, rfl, _⟩ := h; rfl)
  | ptrs l => exact one h (by obtain ⟨g, c, rfl, _⟩ := h; rfl)
  | pref b o => exact one h (by obtain ⟨g, i, rfl, _⟩ := h; rfl)
  | glob g => exact one h (by have : v = .pointer (some ⟨g, 0, none⟩) := h; rw [this]; rfl)
theorem row_one (h : RelE C S E a) {id : Nat} {r : RowC} (hr : S.rows id = some r) : (E.rv id).oneCell' = true := by
  rcases h.rows id r hr with ⟨_, h2⟩ | ⟨g, c, h1, _⟩
  · rw [h2]; rfl
  · rw [h1]; rfl
theorem box_ok (h : RelE C S E a) {t : TypeId} {x : Operand} {s : SV} (hx : opv S.sl x = .one s) (hs : s ≠ .undef ∧ s ≠ .gone) (hr : ∀ id, s = .row id → (S.rows id).isSome = true) (hq : ¬ E.live q) (ho : o.op = .box t x) :
    OpOk C S E q a o { v := .one (.ptr q 0), nb := [⟨t, boxCells s⟩] } := by
  have hv := eval_one h hx
  obtain ⟨h1, h2⟩ := boxCells_ok hv (fun e => e.elim (fun e => absurd e hs.1) (fun e => absurd e hs.2)) (fun id e => by
    subst e
    obtain ⟨r, hr'⟩ := Option.isSome_iff_exists.1 (hr id rfl)
    rw [hv.2]; exact row_one h hr')
  have hrun : (execOp a.eval o).run C.P E.w = .ok (.value (.pointer (some ⟨E.w.heap.size, 0, none⟩))) (E.w.alloc (.cells (a.eval x).cells.toList.toArray t)) := by
    simp [execOp, ho, Instr.box, newVar, newRow]
  refine ok_run hrun ⟨_, rfl, box_made h hq h1 h2, box_new _ _ _ _, fun id hid => ?_, Fr.newBox h hq (Wider.alloc _ _) (Nat.le_refl _) _⟩
  rcases hid with rfl | hid
  · exact .inr ⟨Nat.le_refl _, by omega⟩
  · exact .inl hid
theorem ptrsK_ok (h : RelE C S E a) : ∀ {ps : List (Nat × Operand)} {j : Nat} {l : List (Nat × Nat)}, ptrsK (opv S.sl) ps j = some l → (∀ e ∈ l, E.live e.1) ∧
    ∀ (pre mid : List Value), pre.length = j → mid.length = l.length → Instr.fill (fun i => some (i * 1, 1)) (pre ++ mid).toArray (ps.map fun p => (p.1, a.eval p.2)) = some (pre ++ l.map fun e => Value.pointer (some ⟨E.bb e.1, e.2, none⟩)).toArray
  | [], j, l, hK => by
    cases hK
    exact ⟨fun e he => by simp at he, fun pre mid hp hm => by
      have : mid = [] := List.eq_nil_of_length_eq_zero (by simpa using hm)
      subst this; simp [Instr.fill]⟩
  | (i, x) :: ps, j, l, hK => by
    unfold ptrsK at hK
    split at hK
    · rename_i b o hb hx
      have hij := Nat.eq_of_beq_eq_true hb
      subst hij
      split at hK
      · rename_i l' hl'
        cases hK
        obtain ⟨g1, g2⟩ := ptrsK_ok h hl'
        have hv := eval_one h hx
        refine ⟨fun e he => ?_, fun pre mid hp hm => ?_⟩
        · rcases List.mem_cons.1 he with rfl | he
          · exact hv.1
          · exact g1 e he
        · have hv2 : a.eval x = .pointer (some ⟨E.bb b, o, none⟩) := hv.2
          cases mid with
          | nil => simp at hm
          | cons u mid =>
            have h1 := g2 (pre ++ [.pointer (some ⟨E.bb b, o, none⟩)]) mid (by simp [hp]) (by simpa using hm)
            simp only [List.map_cons, Instr.fill, hv2, Value.cells]
            have hset : ((pre ++ u :: mid).toArray.setIfInBounds i (Value.pointer (some ⟨E.bb b, o, none⟩))) = (pre ++ [Value.pointer (some ⟨E.bb b, o, none⟩)] ++ mid).toArray := by
              apply Array.ext'
              simp only [Array.toList_setIfInBounds]
              rw [List.set_append_right _ _ (by omega), show i - pre.length = 0 by omega]
              simp
            have hsz : ¬ (i * 1 + 1 > (pre ++ u :: mid).toArray.size) := by simp; omega
            simp only [Nat.mul_one] at hsz h1 ⊢
            rw [if_neg (by simp; omega)]
            have hfold : (#[(Value.pointer (some ⟨E.bb b, o, none⟩))].zipIdx.foldl (fun cs (c, j) => cs.setIfInBounds (i + j) c) (pre ++ u :: mid).toArray) = ((pre ++ u :: mid).toArray.setIfInBounds i (Value.pointer (some ⟨E.bb b, o, none⟩))) := by simp [Array.zipIdx]
            rw [hfold, hset, h1]
            simp [List.append_assoc]
      · cases hK
    · cases hK
theorem buildPtrs_ok {P : Program} (hP : C.P = P) (hT : TyOk P T) (h : RelE C S E a) {t e : TypeId} (he : look T.ps t = some e) {ps : Array (Nat × Operand)} {n : Nat} {l : List (Nat × Nat)} (hl : ptrsK (opv S.sl) ps.toList 0 = some l) (hn : l.length = n) (h0 : 0 < n) (hb : n ≤ 1000) (ho : o.op = .buildSlice t n ps) : OpOk C S E q a o { v := .one (.ptrs l) } := by
  subst hP
  obtain ⟨hu, i, z, hi, hs1, hz⟩ := hT.ps t e he
  obtain ⟨hlive, hfl⟩ := ptrsK_ok h hl
  have hs : ∀ w, (sizeOf e).run C.P w = .ok 1 w := fun w => by simp [sizeOf, typeInfo, hi, hs1]
  have h2 := hfl [] (Array.map (fun x => z.cells[x % z.cells.size]!) (Array.range (n * 1))).toList rfl (by simp [hn])
  simp only [List.nil_append, Array.toArray_toList] at h2
  have hrun : (execOp a.eval o).run C.P E.w = .ok (.value (.slice (some ⟨E.w.heap.size, 0, none⟩) n n)) (E.w.alloc (.cells (l.map fun e => Value.pointer (some ⟨E.bb e.1, e.2, none⟩)).toArray e)) := by
    have h1 : ¬ 16777216 < n := by omega
    have h3 : ¬ n = 0 := by omega
    simp only [Nat.mul_one] at h2
    simp [execOp, ho, Instr.buildSlice, run_underlying hu, hs, h1, h3, newRow, zeroValue, typeInfo, hi, hz, h2]
  refine ok_run hrun ⟨_, rfl, h.wide (Wider.alloc _ _), ⟨E.w.heap.size, n, by rw [hn], by omega, ⟨?_, .inr (.inl h.keep.size), by simp⟩, fun j e' he' => ⟨hlive e' (List.mem_of_getElem? he'), ?_⟩⟩, fun id hid => .inl hid, Fr.wide h (Wider.alloc _ _) _⟩
  · cases hx : E.own E.w.heap.size with
    | none => rfl
    | some x => exact absurd (h.ownlt _ x hx).1 (by omega)
  · show (E.w.alloc (.cells (l.map fun e => Value.pointer (some ⟨E.bb e.1, e.2, none⟩)).toArray e)).cell? ⟨E.w.heap.size, j, none⟩ = _
    have hc : (E.w.alloc (.cells (l.map fun e => Value.pointer (some ⟨E.bb e.1, e.2, none⟩)).toArray e)).heap[E.w.heap.size]? = some (.cells (l.map fun e => Value.pointer (some ⟨E.bb e.1, e.2, none⟩)).toArray e (0, 0)) := by simp [World.alloc, -World.alloc_eq]
    rw [cell_of_row _ _ j _ e (0, 0) hc]
    simp [he']
end
end Go.Proofs.YtdbaglogmdkbpaaDoor.Vm
