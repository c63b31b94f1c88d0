/- Boxes, conversions, appends and stores. Conditions: as each theorem states them. -/
import Derived.Test.YtlioalaehkohlaaDoorV8
namespace Go.Proofs.YtlioalaehkohlaaDoor.Vm
open Go Go.RowKit
set_option linter.unusedVariables false
set_option linter.unusedSimpArgs false
section
variable {C : Ctx} {S : St} {E : Env} {q : Nat} {a : Act} {o : Oper} {R : Type} {T : Tys} {r : R}
theorem ERl.app {α : Type} {R : α → List Value → Prop} : ∀ {xs ys : List α} {cs ds : List Value}, ERl R xs cs → ERl R ys ds → ERl R (xs ++ ys) (cs ++ ds)
  | [], ys, _, ds, h, h' => by cases h; exact h'
  | x :: r, ys, _, ds, h, h' => by
    obtain ⟨c1, c2, rfl, h1, h2⟩ := h
    exact ⟨c1, c2 ++ ds, by rw [List.append_assoc], h1, h2.app h'⟩
theorem ERl.one {α : Type} {R : α → List Value → Prop} {x : α} {c : List Value} (h : R x c) : ERl R [x] c := ⟨c, [], by simp, h, rfl⟩
theorem ERl.split {α : Type} {R : α → List Value → Prop} : ∀ {xs ys : List α} {cs : List Value}, ERl R (xs ++ ys) cs → ∃ c1 c2, cs = c1 ++ c2 ∧ ERl R xs c1 ∧ ERl R ys c2
  | [], ys, cs, h => ⟨[], cs, rfl, rfl, h⟩
  | x :: r, ys, _, h => by
    obtain ⟨c1, c2, rfl, h1, h2⟩ := h
    obtain ⟨d1, d2, rfl, g1, g2⟩ := ERl.split h2
    exact ⟨c1 ++ d1, d2, by simp [List.append_assoc], ⟨c1, d1, rfl, h1, g1⟩, g2⟩
theorem SVc.len {s : SV} {cs : List Value} (h : SVc C E s cs) : cs.length = s.w := by
  cases s with
  | val k x => exact VR.len h
  | _ => obtain ⟨v, rfl, _⟩ := h; rfl
/-- one cell -/
theorem SVc.of {s : SV} {v : Value} (h : SVR C E s v) (hs : s.single = true) : SVc C E s [v] := by
  cases s with
  | val k x =>
    have hk : k.agg = false := by simpa [SV.single] using hs
    have h' : VRv E.w (E.F C) k x v := h
    unfold VRv at h'
    rw [if_neg (by rw [hk]; simp)] at h'
    exact h'
  | _ => exact ⟨v, rfl, h⟩
theorem SVc.to {s : SV} {cs : List Value} (h : SVc C E s cs) (hs : s.single = true) : ∃ v, cs = [v] ∧ SVR C E s v := by
  cases s with
  | val k x =>
    have hk : k.agg = false := by simpa [SV.single] using hs
    have h' : VR E.w (E.F C) k x cs := h
    have hl := h'.len
    have h1 : k.sz = 1 := by cases k <;> simp [Ki.agg] at hk <;> rfl
    rw [h1] at hl
    obtain ⟨v, rfl⟩ := List.length_eq_one_iff.1 hl
    refine ⟨v, rfl, ?_⟩
    show VRv E.w (E.F C) k x v
    unfold VRv
    rw [if_neg (by rw [hk]; simp)]
    exact h'
  | _ => exact h
/-- A struct's cells, each for itself. -/
theorem cellsSV_ok : ∀ {k : Ki} {x : k.den} {cs : List Value}, VR E.w (E.F C) k x cs → SVcs C E (cellsSV k x) cs
  | .unit, x, cs, h => by cases h; rfl
  | .int ik, x, cs, h => ERl.one (R := SVc C E) h
  | .bool, x, cs, h => ERl.one (R := SVc C E) h
  | .str, x, cs, h => ERl.one (R := SVc C E) h
  | .list k, x, cs, h => ERl.one (R := SVc C E) h
  | .arr n k, x, cs, h => ERl.one (R := SVc C E) h
  | .ref k, x, cs, h => ERl.one (R := SVc C E) h
  | .nl k, x, cs, h => ERl.one (R := SVc C E) h
  | .pair k1 k2, x, cs, h => by
    obtain ⟨c1, c2, rfl, h1, h2⟩ := h
    exact ERl.app (cellsSV_ok h1) (cellsSV_ok h2)
theorem takeC_ok : ∀ {ss pre : List SV} {o : Nat} {cs : List Value}, takeC ss o = some pre → SVcs C E ss cs → o ≤ cs.length ∧ SVcs C E pre (cs.take o)
  | [], pre, o, cs, h, hs => by
    cases o with
    | zero => cases h; cases (show cs = [] from hs); exact ⟨Nat.le_refl _, rfl⟩
    | succ o => simp [takeC] at h
  | s :: r, pre, o, cs, h, hs => by
    cases o with
    | zero => simp only [takeC] at h; cases h; exact ⟨Nat.zero_le _, by rw [List.take_zero]; rfl⟩
    | succ o =>
      simp only [takeC] at h
      split at h
      · rename_i hb
        have hb := Nat.le_of_ble_eq_true hb
        split at h
        · rename_i l hl
          cases h
          obtain ⟨c1, c2, rfl, h1, h2⟩ : ∃ c1 c2, cs = c1 ++ c2 ∧ SVc C E s c1 ∧ SVcs C E r c2 := hs
          obtain ⟨g1, g2⟩ := takeC_ok hl h2
          have hw := h1.len
          refine ⟨by rw [List.length_append]; omega, c1, c2.take (o + 1 - s.w), ?_, h1, g2⟩
          rw [List.take_append, hw, List.take_of_length_le (by omega)]
        · cases h
      · cases h
theorem dropC_ok : ∀ {ss post : List SV} {o : Nat} {cs : List Value}, dropC ss o = some post → SVcs C E ss cs → o ≤ cs.length ∧ SVcs C E post (cs.drop o)
  | [], post, o, cs, h, hs => by
    cases o with
    | zero => cases h; cases (show cs = [] from hs); exact ⟨Nat.le_refl _, rfl⟩
    | succ o => simp [dropC] at h
  | s :: r, post, o, cs, h, hs => by
    cases o with
    | zero => simp only [dropC] at h; cases h; exact ⟨Nat.zero_le _, hs⟩
    | succ o =>
      simp only [dropC] at h
      split at h
      · rename_i hb
        have hb := Nat.le_of_ble_eq_true hb
        obtain ⟨c1, c2, rfl, h1, h2⟩ : ∃ c1 c2, cs = c1 ++ c2 ∧ SVc C E s c1 ∧ SVcs C E r c2 := hs
        obtain ⟨g1, g2⟩ := dropC_ok h h2
        have hw := h1.len
        refine ⟨by rw [List.length_append]; omega, ?_⟩
        rw [List.drop_append, hw, List.drop_of_length_le (by omega)]
        exact g2
      · cases h
theorem SVsR.mono' {E E' : Env} (h : Env.Le C E E') {ss : List SV} {vs : List Value} (hs : SVsR C E ss vs) : SVsR C E' ss vs := hs.mono h
/-- A box is made. -/
theorem box_made (h : RelE C S E a) {id : Nat} (hid : ¬ E.live id) {t : TypeId} {ss : List SV} {cs : List Value} (hs : SVcs C E ss cs) (h1 : ∀ u ∈ cs, u.oneCell' = true) :
    RelE C (S.newBox id ⟨t, ss⟩) (E.newBox id E.w.heap.size (E.w.alloc (.cells cs.toArray t))) a := by
  have hww : Wider E.w (E.w.alloc (.cells cs.toArray t)) := Wider.alloc _ _
  have hsize : (E.w.alloc (.cells cs.toArray t)).heap.size = E.w.heap.size + 1 := by simp
  have hle := Env.le_newBox (C := C) hid hww (Nat.le_refl _)
  have hbb : (E.newBox id E.w.heap.size (E.w.alloc (.cells cs.toArray t))).bb id = E.w.heap.size := by
    show (if id = id then _ else _) = _
    rw [if_pos rfl]
  refine h.newBox hid hww ⟨Nat.le_refl _, by rw [hsize]; omega⟩ ⟨?_, cs.toArray, ?_, ?_, ?_⟩
  · rw [hbb]
    show (if E.w.heap.size = E.w.heap.size then _ else _) = _
    rw [if_pos rfl]
  · rw [hbb]; exact heap_alloc_new E.w _
  · simpa using hs.mono hle
  · simpa using h1
theorem box_new (E : Env) (id g : Nat) (w' : World) : SLR C (E.newBox id g w') (.one (.ptr id 0)) (.pointer (some ⟨g, 0, none⟩)) := ⟨.inl rfl, by
  show _ = Value.pointer (some ⟨(if id = id then g else _), 0, none⟩)
  rw [if_pos rfl]⟩
theorem constV_ok (v : Value) : SVR C E (constV v) v := by
  unfold constV
  split
  · exact VRv.of_int _ _ _ _
  · exact VRv.of_bool _ _ _
  · exact VRv.of_str _ _ _
  · rfl
  · trivial
theorem constV_single (v : Value) : (constV v).single = true := by
  unfold constV
  split <;> rfl
theorem zcs_ok : ∀ {zs : List Zc} {cs : List Value}, zcB zs cs = true → SVcs C E (zs.map zcV) cs ∧ ∀ u ∈ cs, u.oneCell' = true
  | [], cs, h => by
    cases cs with
    | nil => exact ⟨rfl, fun u hu => by simp at hu⟩
    | cons => simp [zcB] at h
  | .c v :: r, cs, h => by
    cases cs with
    | nil => simp [zcB] at h
    | cons u us =>
      simp only [zcB, Bool.and_eq_true] at h
      obtain rfl := sameV_eq h.1
      obtain ⟨g1, g2⟩ := zcs_ok h.2.2
      refine ⟨⟨[u], us, rfl, SVc.of (constV_ok u) (constV_single u), g1⟩, fun x hx => ?_⟩
      rcases List.mem_cons.1 hx with rfl | hx
      · exact h.2.1
      · exact g2 x hx
  | .a k :: r, cs, h => by
    simp only [zcB, Bool.and_eq_true] at h
    have hv : VR E.w (E.F C) k k.zero (cs.take k.sz) := zeroB_ok h.1
    obtain ⟨g1, g2⟩ := zcs_ok h.2
    refine ⟨⟨cs.take k.sz, cs.drop k.sz, (List.take_append_drop _ _).symm, hv, g1⟩, fun x hx => ?_⟩
    rw [← List.take_append_drop k.sz cs] at hx
    rcases List.mem_append.1 hx with hx | hx
    · exact hv.one x hx
    · exact g2 x hx
theorem alloc_ok {P : Program} (hP : C.P = P) (hT : TyOk P T) (h : RelE C S E a) {t : TypeId} {cs : List Zc} (hz : look T.zo t = some cs) (hq : ¬ E.live q) (ho : o.op = .alloc t) :
    OpOk C S E q a o { v := .one (.ptr q 0), nb := [⟨t, cs.map zcV⟩] } := by
  subst hP
  obtain ⟨i, z, hi, hz1, hz2⟩ := hT.zo t cs hz
  obtain ⟨h0, h1⟩ := zcs_ok (C := C) (E := E) hz2
  have hrun : (execOp a.eval o).run C.P E.w = .ok (.value (.pointer (some ⟨E.w.heap.size, 0, none⟩))) (E.w.alloc (.cells z.cells.toList.toArray t)) := by
    simp [execOp, ho, Instr.alloc, zeroValue, typeInfo, hi, hz1, newVar, newRow]
  refine ok_run hrun ⟨_, rfl, box_made h hq h0 h1, box_new _ _ _ _, fun id hid => ?_, Fr.newBox h hq (Wider.alloc _ _) (Nat.le_refl _) _⟩
  rcases hid with rfl | hid
  · exact .inr ⟨Nat.le_refl _, by omega⟩
  · exact .inl hid
theorem setNil_ok {ss ss' : List SV} {cs : List Value} {o : Nat} (h : setNil ss o = some ss') (hs : SVcs C E ss cs) (hn : cs[o]? = some (.slice none 0 0)) : SVcs C E ss' cs := by
  unfold setNil at h
  split at h
  · rename_i pre s post hp hd
    split at h
    · rename_i hsg
      cases h
      obtain ⟨p1, p2⟩ := takeC_ok hp hs
      obtain ⟨d1, c1, c2, hc, e1, e2⟩ := dropC_ok hd hs
      obtain ⟨v, rfl, _⟩ := SVc.to e1 hsg
      have hv : v = .slice none 0 0 := by
        have : (cs.drop o)[0]? = some v := by rw [hc]; rfl
        rw [List.getElem?_drop, Nat.add_zero, hn] at this
        cases this; rfl
      subst hv
      have := ERl.app (ERl.app p2 (ERl.one (R := SVc C E) (x := SV.nil) (show SVc C E .nil [.slice none 0 0] from ⟨_, rfl, rfl⟩))) e2
      have hcs : cs = List.take o cs ++ [.slice none 0 0] ++ c2 := by rw [List.append_assoc, ← hc, List.take_append_drop]
      rw [hcs]
      exact this
    · cases h
  · cases h
theorem setNils_ok : ∀ {ns : List Nat} {ss ss' : List SV} {cs : List Value}, setNils ss ns = some ss' → SVcs C E ss cs → (∀ o ∈ ns, cs[o]? = some (.slice none 0 0)) → SVcs C E ss' cs
  | [], ss, ss', cs, h, hs, hn => by cases h; exact hs
  | o :: r, ss, ss', cs, h, hs, hn => by
    unfold setNils at h
    split at h
    · rename_i cs' hc
      exact setNils_ok h (setNil_ok hc hs (hn o (List.mem_cons_self ..))) (fun o' ho => hn o' (List.mem_cons_of_mem _ ho))
    · cases h
/-- What a value's cells are. -/
theorem boxCells_ok {s : SV} {v : Value} (h : SVR C E s v) (hu : s = .undef ∨ s = .gone → v.oneCell' = true) (hr : ∀ id, s = .row id → v.oneCell' = true) : SVcs C E (boxCells s) v.cells.toList ∧ ∀ u ∈ v.cells.toList, u.oneCell' = true := by
  have one : ∀ {s : SV}, s.single = true → SVR C E s v → v.oneCell' = true → SVcs C E [s] v.cells.toList ∧ ∀ u ∈ v.cells.toList, u.oneCell' = true := fun {s} h1 hs hv => by
    have hc : v.cells = #[v] := by cases v <;> simp [Value.oneCell'] at hv <;> rfl
    rw [hc]
    exact ⟨ERl.one (R := SVc C E) (SVc.of hs h1), fun u hu => by simp at hu; subst hu; exact hv⟩
  cases s with
  | val k x => exact ⟨cellsSV_ok (VR.sz1 h), fun u hu => (VR.sz1 h).one u hu⟩
  | nn k xs => exact one rfl h (by obtain ⟨_, ad, n, c, e⟩ := h; rw [e]; rfl)
  | bld k x ns => exact ⟨cellsSV_ok (VR.sz1 h.1), fun u hu => (VR.sz1 h.1).one u hu⟩
  | undef => exact one rfl h (hu (.inl rfl))
  | gone => exact one rfl h (hu (.inr rfl))
  | row id => exact one rfl h (hr id rfl)
  | nil => exact one rfl h (by have : v = .slice none 0 0 := h; rw [this]; rfl)
  | ptr b o => exact one rfl h (by rw [h.2]; rfl)
  | elem id sz i o => exact one rfl h (by obtain ⟨_, g, n, c, _, rfl, _⟩ := h; rfl)
  | ael b o n sz i => exact one rfl h (by rw [h.2.2]; rfl)
  | ref k x => exact one rfl h (by obtain ⟨b, o, ds, rfl, _⟩ := h; rfl)
  | ptrs l => exact one rfl h (by obtain ⟨g, c, rfl, _⟩ := h; rfl)
  | pref b o => exact one rfl h (by obtain ⟨g, i, rfl, _⟩ := h; rfl)
  | glob g => exact one rfl h (by have : v = .pointer (some ⟨g, 0, none⟩) := h; rw [this]; rfl)
theorem row_one (h : RelE C S E a) {id : Nat} {r : RowC} (hr : S.rows id = some r) : (E.rv id).oneCell' = true := by
  rcases h.rows id r hr with ⟨_, h2⟩ | ⟨g, c, h1, _⟩
  · rw [h2]; rfl
  · rw [h1]; rfl
theorem box_ok (h : RelE C S E a) {t : TypeId} {x : Operand} {s : SV} (hx : opv S.sl x = .one s) (hs : s ≠ .undef ∧ s ≠ .gone) (hr : ∀ id, s = .row id → (S.rows id).isSome = true) (hq : ¬ E.live q) (ho : o.op = .box t x) :
    OpOk C S E q a o { v := .one (.ptr q 0), nb := [⟨t, boxCells s⟩] } := by
  have hv := eval_one h hx
  obtain ⟨h1, h2⟩ := boxCells_ok hv (fun e => e.elim (fun e => absurd e hs.1) (fun e => absurd e hs.2)) (fun id e => by
    subst e
    obtain ⟨r, hr'⟩ := Option.isSome_iff_exists.1 (hr id rfl)
    rw [hv.2]; exact row_one h hr')
  have hrun : (execOp a.eval o).run C.P E.w = .ok (.value (.pointer (some ⟨E.w.heap.size, 0, none⟩))) (E.w.alloc (.cells (a.eval x).cells.toList.toArray t)) := by
    simp [execOp, ho, Instr.box, newVar, newRow]
  refine ok_run hrun ⟨_, rfl, box_made h hq h1 h2, box_new _ _ _ _, fun id hid => ?_, Fr.newBox h hq (Wider.alloc _ _) (Nat.le_refl _) _⟩
  rcases hid with rfl | hid
  · exact .inr ⟨Nat.le_refl _, by omega⟩
  · exact .inl hid
theorem ptrsK_ok (h : RelE C S E a) : ∀ {ps : List (Nat × Operand)} {j : Nat} {l : List (Nat × Nat)}, ptrsK (opv S.sl) ps j = some l → (∀ e ∈ l, E.live e.1) ∧
    ∀ (pre mid : List Value), pre.length = j → mid.length = l.length → Instr.fill (fun i => some (i * 1, 1)) (pre ++ mid).toArray (ps.map fun p => (p.1, a.eval p.2)) = some (pre ++ l.map fun e => Value.pointer (some ⟨E.bb e.1, e.2, none⟩)).toArray
  | [], j, l, hK => by
    cases hK
    exact ⟨fun e he => by simp at he, fun pre mid hp hm => by
      have : mid = [] := List.eq_nil_of_length_eq_zero (by simpa using hm)
      subst this; simp [Instr.fill]⟩
  | (i, x) :: ps, j, l, hK => by
    unfold ptrsK at hK
    split at hK
    · rename_i b o hb hx
      have hij := Nat.eq_of_beq_eq_true hb
      subst hij
      split at hK
      · rename_i l' hl'
        cases hK
        obtain ⟨g1, g2⟩ := ptrsK_ok h hl'
        have hv := eval_one h hx
        refine ⟨fun e he => ?_, fun pre mid hp hm => ?_⟩
        · rcases List.mem_cons.1 he with rfl | he
          · exact hv.1
          · exact g1 e he
        · have hv2 : a.eval x = .pointer (some ⟨E.bb b, o, none⟩) := hv.2
          cases mid with
          | nil => simp at hm
          | cons u mid =>
            have h1 := g2 (pre ++ [.pointer (some ⟨E.bb b, o, none⟩)]) mid (by simp [hp]) (by simpa using hm)
            simp only [List.map_cons, Instr.fill, hv2, Value.cells]
            have hset : ((pre ++ u :: mid).toArray.setIfInBounds i (Value.pointer (some ⟨E.bb b, o, none⟩))) = (pre ++ [Value.pointer (some ⟨E.bb b, o, none⟩)] ++ mid).toArray := by
              apply Array.ext'
              simp only [Array.toList_setIfInBounds]
              rw [List.set_append_right _ _ (by omega), show i - pre.length = 0 by omega]
              simp
            have hsz : ¬ (i * 1 + 1 > (pre ++ u :: mid).toArray.size) := by simp; omega
            simp only [Nat.mul_one] at hsz h1 ⊢
            rw [if_neg (by simp; omega)]
            have hfold : (#[(Value.pointer (some ⟨E.bb b, o, none⟩))].zipIdx.foldl (fun cs (c, j) => cs.setIfInBounds (i + j) c) (pre ++ u :: mid).toArray) = ((pre ++ u :: mid).toArray.setIfInBounds i (Value.pointer (some ⟨E.bb b, o, none⟩))) := by simp [Array.zipIdx]
            rw [hfold, hset, h1]
            simp [List.append_assoc]
      · cases hK
    · cases hK
theorem buildPtrs_ok {P : Program} (hP : C.P = P) (hT : TyOk P T) (h : RelE C S E a) {t e : TypeId} (he : look T.ps t = some e) {ps : Array (Nat × Operand)} {n : Nat} {l : List (Nat × Nat)} (hl : ptrsK (opv S.sl) ps.toList 0 = some l) (hn : l.length = n) (h0 : 0 < n) (hb : n ≤ 1000) (ho : o.op = .buildSlice t n ps) : OpOk C S E q a o { v := .one (.ptrs l) } := by
  subst hP
  obtain ⟨hu, i, z, hi, hs1, hz⟩ := hT.ps t e he
  obtain ⟨hlive, hfl⟩ := ptrsK_ok h hl
  have hs : ∀ w, (sizeOf e).run C.P w = .ok 1 w := fun w => by simp [sizeOf, typeInfo, hi, hs1]
  have h2 := hfl [] (Array.map (fun x => z.cells[x % z.cells.size]!) (Array.range (n * 1))).toList rfl (by simp [hn])
  simp only [List.nil_append, Array.toArray_toList] at h2
  have hrun : (execOp a.eval o).run C.P E.w = .ok (.value (.slice (some ⟨E.w.heap.size, 0, none⟩) n n)) (E.w.alloc (.cells (l.map fun e => Value.pointer (some ⟨E.bb e.1, e.2, none⟩)).toArray e)) := by
    have h1 : ¬ 16777216 < n := by omega
    have h3 : ¬ n = 0 := by omega
    simp only [Nat.mul_one] at h2
    simp [execOp, ho, Instr.buildSlice, run_underlying hu, hs, h1, h3, newRow, zeroValue, typeInfo, hi, hz, h2]
  refine ok_run hrun ⟨_, rfl, h.wide (Wider.alloc _ _), ⟨E.w.heap.size, n, by rw [hn], by omega, ⟨?_, .inr (.inl h.keep.size), by simp⟩, fun j e' he' => ⟨hlive e' (List.mem_of_getElem? he'), ?_⟩⟩, fun id hid => .inl hid, Fr.wide h (Wider.alloc _ _) _⟩
  · cases hx : E.own E.w.heap.size with
    | none => rfl
    | some x => exact absurd (h.ownlt _ x hx).1 (by omega)
  · show (E.w.alloc (.cells (l.map fun e => Value.pointer (some ⟨E.bb e.1, e.2, none⟩)).toArray e)).cell? ⟨E.w.heap.size, j, none⟩ = _
    have hc : (E.w.alloc (.cells (l.map fun e => Value.pointer (some ⟨E.bb e.1, e.2, none⟩)).toArray e)).heap[E.w.heap.size]? = some (.cells (l.map fun e => Value.pointer (some ⟨E.bb e.1, e.2, none⟩)).toArray e (0, 0)) := by simp [World.alloc, -World.alloc_eq]
    rw [cell_of_row _ _ j _ e (0, 0) hc]
    simp [he']
end
end Go.Proofs.YtlioalaehkohlaaDoor.Vm
