/- What is made: rows, structs, boxes. Conditions: as each theorem states them. -/
import Derived.Test.YtlioalaehkohlaaDoorV7
namespace Go.Proofs.YtlioalaehkohlaaDoor.Vm
open Go Go.RowKit
set_option linter.unusedVariables false
set_option linter.unusedSimpArgs false
theorem fold_set (off : Nat) : ∀ (l : List Value) (k : Nat) (pre mid post : List Value), pre.length = off + k → mid.length = l.length →
    ((l.zipIdx k).foldl (fun (cs : Array Value) (p : Value × Nat) => cs.setIfInBounds (off + p.2) p.1) (pre ++ mid ++ post).toArray) = (pre ++ l ++ post).toArray
  | [], k, pre, mid, post, _, hm => by
    have : mid = [] := List.eq_nil_of_length_eq_zero (by simpa using hm)
    subst this; rfl
  | c :: l, k, pre, mid, post, hp, hm => by
    cases mid with
    | nil => simp at hm
    | cons d mid =>
      simp only [List.zipIdx_cons, List.foldl_cons]
      have h1 : (pre ++ d :: mid ++ post).toArray.setIfInBounds (off + k) c = ((pre ++ [c]) ++ mid ++ post).toArray := by
        rw [← hp]
        simp
      rw [h1, fold_set off l (k + 1) (pre ++ [c]) mid post (by simp; omega) (by simpa using hm)]
      simp
theorem fill_step (place : Nat → Option (Nat × Nat)) {i off : Nat} {v : Value} {rest : List (Nat × Value)} {pre mid post : List Value} (hp : place i = some (off, v.cells.toList.length)) (hoff : pre.length = off) (hm : mid.length = v.cells.toList.length) :
    Instr.fill place (pre ++ mid ++ post).toArray ((i, v) :: rest) = Instr.fill place (pre ++ v.cells.toList ++ post).toArray rest := by
  have h1 := fold_set off v.cells.toList 0 pre mid post (by simpa using hoff) hm
  have h2 : v.cells.zipIdx.foldl (fun (cs : Array Value) (p : Value × Nat) => cs.setIfInBounds (off + p.2) p.1) (pre ++ mid ++ post).toArray = (pre ++ v.cells.toList ++ post).toArray := by
    rw [← h1, ← Array.foldl_toList, Array.toList_zipIdx]
  have h3 : ¬ (pre ++ mid ++ post).toArray.size < off + v.cells.size := by
    simp only [List.size_toArray, List.length_append]
    simp only [Array.length_toList] at hm
    omega
  rw [Instr.fill, hp]
  simp only [Array.length_toList]
  rw [if_neg (by simp; simp at h3; omega)]
  exact congrArg (fun x => Instr.fill place x rest) h2
section
variable {C : Ctx} {S : St} {E : Env} {q : Nat} {a : Act} {o : Oper} {R : Type} {T : Tys} {r : R}
theorem drops_w (E : Env) (l : List Nat) : (E.drops l).w = E.w := rfl
theorem drops_live (E : Env) (l : List Nat) : (E.drops l).live = E.live := rfl
theorem partsK_ok (h : RelE C S E a) {k : Ki} {size : Nat} (hsz : k.sz = size) : ∀ {ps : List (Nat × Operand)} {j : Nat} {K : List k.den → List Nat → Option R}, partsK S.rows (opv S.sl) k ps j K = some r →
    ∃ xs fz, K xs fz = some r ∧ ∀ l : List Nat, (∀ i ∈ fz, i ∈ l) → ∃ cs, ER E.w ((E.drops l).F C) k xs cs ∧
      ∀ (pre mid : List Value), pre.length = j * size → mid.length = xs.length * size → Instr.fill (fun i => some (i * size, size)) (pre ++ mid).toArray (ps.map fun p => (p.1, a.eval p.2)) = some (pre ++ cs).toArray
  | [], j, K, hK => ⟨[], [], hK, fun l _ => ⟨[], rfl, fun pre mid hp hm => by
      have : mid = [] := List.eq_nil_of_length_eq_zero (by simpa using hm)
      subst this; simp [Instr.fill]⟩⟩
  | (i, x) :: ps, j, K, hK => by
    unfold partsK at hK
    cases hb : Nat.beq i j with
    | false => rw [hb] at hK; cases hK
    | true =>
      rw [hb] at hK
      have hij := Nat.eq_of_beq_eq_true hb
      subst hij
      cases hx : opv S.sl x with
      | one s =>
        rw [hx] at hK
        obtain ⟨y, f1, hK1, h1⟩ := rdK_ok (C := C) hK
        obtain ⟨ys, f2, hK2, h2⟩ := partsK_ok h hsz hK1
        refine ⟨y :: ys, f1 ++ f2, hK2, fun l hl => ?_⟩
        have hv := h1 h (eval_one h hx) (fun i hi => hl i (List.mem_append_left _ hi))
        obtain ⟨cs, h3, h4⟩ := h2 l (fun i hi => hl i (List.mem_append_right _ hi))
        have hc := VR.sz1 hv
        refine ⟨(a.eval x).cells.toList ++ cs, ⟨_, cs, rfl, hc, h3⟩, fun pre mid hp hm => ?_⟩
        have hlen := hc.len
        rw [hsz] at hlen
        have hm' : (mid.take size).length = (a.eval x).cells.toList.length := by
          rw [hlen, List.length_take, hm, List.length_cons, Nat.add_mul]; omega
        have hsplit : pre ++ mid = pre ++ mid.take size ++ mid.drop size := by rw [List.append_assoc, List.take_append_drop]
        rw [List.map_cons, hsplit, fill_step (fun i => some (i * size, size)) (by rw [hlen]) hp hm', h4 (pre ++ (a.eval x).cells.toList) (mid.drop size) (by rw [List.length_append, hp, hlen, Nat.add_mul]; omega) (by rw [List.length_drop, hm, List.length_cons, Nat.add_mul]; omega), List.append_assoc]
      | tup vs => rw [hx] at hK; cases hK
      | fn f cs => rw [hx] at hK; cases hK
/-- A row is made. -/
theorem row_made (h : RelE C S E a) {id : Nat} (hid : ¬ E.live id) {e : TypeId} {k : Ki} {xs : List k.den} {cs : List Value} {c : Nat} (hE : ER E.w (E.F C) k xs cs) {w1 : World} (hw : Wider E.w w1) (hc : xs.length ≤ c) (hm : c ≤ maxLen) (more : List Value) (hl : (cs ++ more).length = c * k.sz) :
    RelE C (S.newRow id ⟨e, k, xs, false⟩) (E.newRow id (.slice (some ⟨w1.heap.size, 0, none⟩) xs.length c) (some w1.heap.size) (w1.alloc (.cells (cs ++ more).toArray e))) a := by
  have hww : Wider E.w (w1.alloc (.cells (cs ++ more).toArray e)) := hw.trans (Wider.alloc _ _)
  have hsize : (w1.alloc (.cells (cs ++ more).toArray e)).heap.size = w1.heap.size + 1 := by simp
  refine h.newRow hid hww (fun b hb => by cases hb; exact ⟨hw.size, by rw [hsize]; omega⟩) (.inr ⟨w1.heap.size, c, ?_, hc, hm, ?_, ?_⟩)
  · show (if id = id then _ else _) = _
    rw [if_pos rfl]
  · have hle := Env.le_new (C := C) hid (.slice (some ⟨w1.heap.size, 0, none⟩) xs.length c) (some w1.heap.size) hww (fun b hb => by cases hb; exact hw.size)
    have hat : CellsAt (w1.alloc (.cells (cs ++ more).toArray e)) w1.heap.size 0 cs := fun j v hj => by
      have hcell := cell_of_row (w1.alloc (.cells (cs ++ more).toArray e)) w1.heap.size (0 + j) (cs ++ more).toArray e (0, 0) (heap_alloc_new w1 _)
      rw [hcell]
      simp only [Nat.zero_add, List.getElem?_toArray]
      rw [List.getElem?_append_left (List.getElem?_eq_some_iff.1 hj).1]
      exact hj
    intro i x hx
    obtain ⟨ds, g1, g2⟩ := (hE.mono hle.F).spread hat i x hx
    exact ⟨ds, g1, by simpa using g2⟩
  · rw [if_neg (by simp)]
    refine ⟨?_, _, heap_alloc_new w1 _, ?_⟩
    · show (if some w1.heap.size = some w1.heap.size then _ else _) = _
      rw [if_pos rfl]
    · simpa using hl
theorem size_zeros (z : Array Value) (n : Nat) : ((Array.range n).map (fun i => z[i % z.size]!)).size = n := by simp
theorem row_new (E : Env) (id : Nat) (v : Value) (o : Option Nat) (w' : World) : SLR C (E.newRow id v o w') (.one (.row id)) v := ⟨.inl rfl, by show v = (if id = id then v else _); rw [if_pos rfl]⟩
theorem made_flat (z : Array Value) (m : Nat) : (madeCells z (m * z.size)).toList = (List.replicate m z.toList).flatten := by
  have hget : ∀ n j, (madeCells z n).toList[j]? = if j < n then some (z[j % z.size]!) else none := fun n j => by
    unfold madeCells
    by_cases hj : j < n <;> simp [hj]
  induction m with
  | zero => simp [madeCells]
  | succ m ih =>
    rw [List.replicate_succ', List.flatten_append, ← ih]
    simp only [List.flatten_cons, List.flatten_nil, List.append_nil]
    apply List.ext_getElem?
    intro j
    have hl : (madeCells z (m * z.size)).toList.length = m * z.size := by rw [Array.length_toList, size_madeCells]
    rw [hget]
    by_cases h1 : j < m * z.size
    · rw [List.getElem?_append_left (by rw [hl]; exact h1), hget, if_pos h1, if_pos (by rw [Nat.add_mul]; omega)]
    · rw [List.getElem?_append_right (by rw [hl]; omega), hl]
      by_cases h2 : j < (m + 1) * z.size
      · rw [if_pos h2]
        have h3 : j - m * z.size < z.size := by rw [Nat.add_mul] at h2; omega
        have h4 : j % z.size = j - m * z.size := by
          obtain ⟨d, hd⟩ : ∃ d, d = j - m * z.size := ⟨_, rfl⟩
          have h5 : j = z.size * m + d := by rw [Nat.mul_comm]; omega
          rw [← hd] at h3 ⊢
          rw [h5, Nat.mul_add_mod, Nat.mod_eq_of_lt h3]
        rw [h4]
        simp [h3]
      · rw [if_neg h2]
        symm
        apply List.getElem?_eq_none
        rw [Nat.add_mul] at h2
        simp
        omega
theorem buildSlice_ok {P : Program} (hP : C.P = P) (hT : TyOk P T) (h : RelE C S E a) {t e : TypeId} {k : Ki} (hk : T.kind t = some (.list k)) (he : look T.sl t = some e) {ps : Array (Nat × Operand)} {n : Nat}
    {xs : List k.den} {fz : List Nat} {cs : List Value} (hn : xs.length = n) (hb : n * k.sz ≤ 16777216) (hE : ER E.w ((E.drops fz).F C) k xs cs)
    (hf : ∀ (pre mid : List Value), pre.length = 0 * k.sz → mid.length = xs.length * k.sz → Instr.fill (fun i => some (i * k.sz, k.sz)) (pre ++ mid).toArray (ps.toList.map fun p => (p.1, a.eval p.2)) = some (pre ++ cs).toArray)
    (hq : ¬ E.live q) (ho : o.op = .buildSlice t n ps) : OpOk C S E q a o { v := .one (.row q), fz := fz, nr := [⟨e, k, xs, false⟩] } := by
  subst hP
  obtain ⟨e', hu, hs, hp, hke, hse⟩ := elem_size hT hk E.w
  have hee := hse e he
  subst hee
  obtain ⟨⟨i, z, hi, hsz, hz, _⟩, _⟩ := hT.kd e k hke
  have hlen : cs.length = n * k.sz := by rw [hE.len, hn]
  have hrun : (execOp a.eval o).run C.P E.w = .ok (.value (.slice (some ⟨E.w.heap.size, 0, none⟩) n n)) (E.w.alloc (.cells cs.toArray e)) := by
    have hfill : ∀ arr : Array Value, arr.size = n * k.sz → Instr.fill (fun i => some (i * k.sz, k.sz)) arr (List.map (fun x => (x.1, a.eval x.2)) ps.toList) = some cs.toArray := by
      intro arr ha
      have := hf [] arr.toList (by simp) (by rw [Array.length_toList, ha, hn])
      simpa using this
    by_cases h0 : n * k.sz = 0
    · have hn0 : n = 0 := by
        rcases Nat.mul_eq_zero.1 h0 with h | h
        · exact h
        · omega
      subst hn0
      simp [execOp, ho, Instr.buildSlice, run_underlying hu, hs, newRow, hfill (Array.map (fun x => default) (Array.range 0)) (by simp)]
    · have h1 : ¬ 16777216 < n * k.sz := by omega
      have h2 := hfill (Array.map (fun x => z.cells[x % z.cells.size]!) (Array.range (n * k.sz))) (by simp)
      have h3 : ¬ (n = 0 ∨ k.sz = 0) := by rw [Nat.mul_eq_zero] at h0; exact h0
      simp [execOp, ho, Instr.buildSlice, run_underlying hu, hs, h0, h1, h3, newRow, zeroValue, typeInfo, hi, hz, h2]
  have hmx : n ≤ maxLen := by
    have : n * 1 ≤ n * k.sz := Nat.mul_le_mul_left n hp
    unfold maxLen
    omega
  subst hn
  refine ok_run hrun ⟨_, by rw [List.append_nil]; rfl, row_made (h.frs (l := fz)) (by rw [drops_live]; exact hq) (hE : ER (E.drops fz).w _ k xs cs) (Wider.refl _) (Nat.le_refl _) hmx [] (by rw [List.append_nil, hlen]), row_new _ _ _ _ _, fun id hid => ?_, (Fr.drops h fz _).trans (Fr.new (h.frs (l := fz)) (by rw [drops_live]; exact hq) _ _ (Wider.alloc _ _) (fun b hb => by cases hb; exact Nat.le_refl _) _)⟩
  rcases hid with rfl | hid
  · exact .inr ⟨Nat.le_refl _, by omega⟩
  · exact .inl hid
theorem grownCap_max (w : World) (n : Nat) (e : TypeId) (h : n ≤ maxLen) : n ≤ grownCap w n 0 e ∧ grownCap w n 0 e ≤ maxLen := ⟨grownCap_ge w n 0 e, grownCap_le_maxLen w n 0 e h⟩
theorem makeSlice_ok {P : Program} (hP : C.P = P) (hT : TyOk P T) (h : RelE C S E a) {t e : TypeId} {k : Ki} (hk : T.kind t = some (.list k)) (he : look T.sl t = some e) {x y : Operand} {n : Int} (hx : a.eval x = .int .i64 n) (hy : a.eval y = .int .i64 n)
    (h0 : 0 ≤ n) (h1 : n ≤ lim) (hq : ¬ E.live q) (ho : o.op = .makeSlice t x y) : OpOk C S E q a o { v := .one (.row q), nr := [⟨e, k, List.replicate n.toNat k.zero, false⟩] } := by
  subst hP
  obtain ⟨e', hu, hs, hp, hke, hse⟩ := elem_size hT hk E.w
  have hee := hse e he
  subst hee
  obtain ⟨⟨i, z, hi, hsz, hz, hzv, hby, hby2⟩, _⟩ := hT.kd e k hke
  obtain ⟨m, rfl⟩ : ∃ m : Nat, n = (m : Int) := ⟨n.toNat, by omega⟩
  unfold lim at h1
  have hmm : m ≤ 4294967296 := by omega
  have hbm : i.bytes * m ≤ 281474976710656 := Nat.le_trans (Nat.mul_le_mul hby2 hmm) (by decide)
  have hr := run_make (P := C.P) E.w t e i z hu hi hz .i64 .i64 m m (by omega) (Int.le_refl _) (by
    have h : ((i.bytes * m : Nat) : Int) ≤ 281474976710656 := by omega
    rwa [Int.natCast_mul] at h) (by omega)
  simp only [Int.toNat_natCast] at hr
  have hv := hzv E.w (E.F C)
  obtain ⟨cs, g1, g2⟩ := ER.rep hv m
  have hcs : (madeCells z.cells (m * i.size)) = cs.toArray := by
    rw [g2]
    apply Array.ext'
    have hzl : z.cells.size = i.size := by rw [hsz, ← hv.len, Array.length_toList]
    rw [← hzl]
    exact made_flat z.cells m
  have hrun : (execOp a.eval o).run C.P E.w = .ok (.value (.slice (some ⟨E.w.heap.size, 0, none⟩) m m)) (E.w.alloc (.cells cs.toArray e)) := by
    rw [← hcs]
    simp [execOp, ho, hx, hy, hr]
  have hlen : (List.replicate m k.zero).length = m := by simp
  have hmx : m ≤ maxLen := by unfold maxLen; omega
  simp only [Int.toNat_natCast]
  have hR := row_made h hq (e := e) g1 (Wider.refl _) (c := m) (by rw [hlen]; exact Nat.le_refl _) hmx [] (by rw [List.append_nil, g1.len, hlen])
  rw [hlen] at hR
  refine ok_run hrun ⟨_, by rw [List.append_nil]; rfl, hR, row_new _ _ _ _ _, fun id hid => ?_, Fr.new h hq _ _ (Wider.alloc _ _) (fun b hb => by cases hb; exact Nat.le_refl _) _⟩
  rcases hid with rfl | hid
  · exact .inr ⟨Nat.le_refl _, by omega⟩
  · exact .inl hid
/-- What is nought is read as nought. -/
theorem fields_places {P : Program} (hT : TyOk P T) : ∀ {k : Ki} {o : Nat} {fs : List Field}, FieldsAt T P k o fs → ∃ places, fs.mapM (fun f => (P.info? f.type).map fun i => (f.offset, i.size)) = some places ∧ places.length = fs.length
  | .unit, o, [], _ => ⟨[], rfl, rfl⟩
  | .pair a b, o, f :: r, h => by
    obtain ⟨h1, h2, h3, h4⟩ := h
    obtain ⟨pl, h5, h6⟩ := fields_places hT h4
    obtain ⟨⟨i, z, hi, hs, _⟩, _⟩ := hT.kd _ _ h2
    exact ⟨(f.offset, i.size) :: pl, by simp [List.mapM_cons, hi, h5], by simp [h6]⟩
theorem places_at {P : Program} (hT : TyOk P T) : ∀ {k : Ki} {o : Nat} {fs : List Field} {places : List (Nat × Nat)}, FieldsAt T P k o fs → fs.mapM (fun f => (P.info? f.type).map fun i => (f.offset, i.size)) = some places →
    match k, places with
    | .pair a b, p :: pl => p = (o, a.sz) ∧ ∃ f r, fs = f :: r ∧ FieldsAt T P b (o + a.sz) r ∧ r.mapM (fun f => (P.info? f.type).map fun i => (f.offset, i.size)) = some pl
    | .unit, [] => True
    | _, _ => False
  | .unit, o, [], places, _, h => by
    simp at h
    subst h
    trivial
  | .pair a b, o, f :: r, places, h, hp => by
    obtain ⟨h1, h2, h3, h4⟩ := h
    obtain ⟨⟨i, z, hi, hs, _⟩, _⟩ := hT.kd _ _ h2
    obtain ⟨pl, h5, h6⟩ := fields_places hT h4
    simp [List.mapM_cons, hi, h5] at hp
    subst hp
    exact ⟨by rw [h1, hs], f, r, rfl, h4, h5⟩
theorem VR.zero_split {w : World} {F : Nat → Prop} {k1 k2 : Ki} {cs : List Value} (h : VR w F (.pair k1 k2) (Ki.zero (.pair k1 k2)) cs) : ∃ c1 c2, cs = c1 ++ c2 ∧ VR w F k1 k1.zero c1 ∧ VR w F k2 k2.zero c2 := h
theorem nil1_eq {zo : List Zc} {a : Ki} {o i : Nat} (h : i ∈ nil1 zo a o) : i = o ∧ nilAt zo o = true ∧ a.sz = 1 := by
  unfold nil1 at h
  split at h
  · split at h
    · rename_i hn; simp at h; exact ⟨h, hn, rfl⟩
    · simp at h
  · simp at h
theorem nilOffs_ge {zo : List Zc} : ∀ {k : Ki} {j o : Nat} {ps : List (Nat × Operand)} {i : Nat}, i ∈ nilOffs zo k j o ps → o ≤ i ∧ nilAt zo i = true := by
  intro k
  induction k with
  | pair a b iha ihb =>
    intro j o ps i h
    cases ps with
    | nil =>
      simp only [nilOffs, List.mem_append] at h
      rcases h with h | h
      · obtain ⟨rfl, h2, _⟩ := nil1_eq h; exact ⟨Nat.le_refl _, h2⟩
      · obtain ⟨h1, h2⟩ := ihb h; exact ⟨by omega, h2⟩
    | cons p ps =>
      simp only [nilOffs] at h
      split at h
      · obtain ⟨h1, h2⟩ := ihb h; exact ⟨by omega, h2⟩
      · rw [List.mem_append] at h
        rcases h with h | h
        · obtain ⟨rfl, h2, _⟩ := nil1_eq h; exact ⟨Nat.le_refl _, h2⟩
        · obtain ⟨h1, h2⟩ := ihb h; exact ⟨by omega, h2⟩
  | _ => intro j o ps i h; cases ps <;> simp [nilOffs] at h
theorem nilAt_ok : ∀ {zo : List Zc} {cs : List Value} {o : Nat}, nilAt zo o = true → zcB zo cs = true → cs[o]? = some (.slice none 0 0)
  | [], cs, o, h, hz => by simp [nilAt] at h
  | .a k :: r, cs, o, h, hz => by simp [nilAt] at h
  | .c v :: r, [], o, h, hz => by simp [zcB] at hz
  | .c v :: r, u :: us, 0, h, hz => by
    simp only [zcB, Bool.and_eq_true] at hz
    simp only [nilAt] at h
    split at h
    · have := sameV_eq hz.1
      subst this
      rfl
    · cases h
  | .c v :: r, u :: us, o + 1, h, hz => by
    simp only [zcB, Bool.and_eq_true] at hz
    exact nilAt_ok (zo := r) (cs := us) (o := o) h hz.2.2
/-- A struct is built: the named parts, in order, and noughts. -/
theorem buildK_ok {P : Program} (hT : TyOk P T) (h : RelE C S E a) (place : Nat → Option (Nat × Nat)) : ∀ {k : Ki} {j : Nat} {ps : List (Nat × Operand)} {K : k.den → List Nat → Option R}, buildK S.rows (opv S.sl) k j ps K = some r →
    ∃ x fz, K x fz = some r ∧ ∀ (l : List Nat), (∀ i ∈ fz, i ∈ l) → ∀ {fs : List Field} {places : List (Nat × Nat)} {off : Nat} {pre z : List Value}, FieldsAt T P k off fs → fs.mapM (fun f => (P.info? f.type).map fun i => (f.offset, i.size)) = some places →
      (∀ i, place (j + i) = places[i]?) → pre.length = off → VR E.w ((E.drops l).F C) k k.zero z →
      ∃ cs, VR E.w ((E.drops l).F C) k x cs ∧ Instr.fill place (pre ++ z).toArray (ps.map fun p => (p.1, a.eval p.2)) = some (pre ++ cs).toArray ∧ ∀ zo, ∀ i ∈ nilOffs zo k j off ps, cs[i - off]? = z[i - off]? := by
  intro k
  induction k with
  | unit =>
    intro j ps K hK
    cases ps with
    | nil =>
      refine ⟨(), [], hK, fun l hl fs places off pre z hf hp hpl hpre hz => ⟨z, hz, by simp [Instr.fill], fun _ _ _ => rfl⟩⟩
    | cons p ps => simp [buildK] at hK
  | pair k1 k2 ih1 ih2 =>
    intro j ps K hK
    cases ps with
    | nil =>
      refine ⟨_, [], hK, fun l hl fs places off pre z hf hp hpl hpre hz => ⟨z, hz, by simp [Instr.fill], fun _ _ _ => rfl⟩⟩
    | cons p ps =>
      obtain ⟨i, x⟩ := p
      unfold buildK at hK
      cases hb : Nat.beq i j with
      | true =>
        rw [hb] at hK
        have hij := Nat.eq_of_beq_eq_true hb
        subst hij
        cases hx : opv S.sl x with
        | one s =>
          rw [hx] at hK
          obtain ⟨y, f1, hK1, h1⟩ := rdK_ok (C := C) hK
          obtain ⟨ys, f2, hK2, h2⟩ := ih2 hK1
          refine ⟨(y, ys), f1 ++ f2, hK2, fun l hl fs places off pre z hf hp hpl hpre hz => ?_⟩
          have hv := VR.sz1 (h1 h (eval_one h hx) (fun i hi => hl i (List.mem_append_left _ hi)))
          have hpa := places_at hT hf hp
          cases places with
          | nil => exact hpa.elim
          | cons p pl =>
            obtain ⟨rfl, f, fr, rfl, hf2, hp2⟩ := hpa
            obtain ⟨c1, c2, rfl, hz1, hz2⟩ := VR.zero_split hz
            have hlen := hv.len
            obtain ⟨cs, g1, g2, g3⟩ := h2 l (fun i hi => hl i (List.mem_append_right _ hi)) (off := off + k1.sz) (pre := pre ++ (a.eval x).cells.toList) (z := c2) hf2 hp2 (fun m => by have := hpl (m + 1); simpa [Nat.add_assoc, Nat.add_comm 1 m] using this) (by rw [List.length_append, hpre, hlen]) hz2
            refine ⟨(a.eval x).cells.toList ++ cs, ⟨_, cs, rfl, hv, g1⟩, ?_, fun zo i hi => ?_⟩
            · rw [List.map_cons, ← List.append_assoc, fill_step place (by have := hpl 0; rw [Nat.add_zero] at this; rw [this, hlen]; rfl) hpre (by rw [hz1.len, hlen]), g2, List.append_assoc]
            · simp only [nilOffs, hb] at hi
              have := g3 zo i hi
              have hge := (nilOffs_ge hi).1
              rw [List.getElem?_append_right (by rw [hlen]; omega), List.getElem?_append_right (by rw [hz1.len]; omega), hlen, hz1.len, Nat.sub_sub]
              exact this
        | tup vs => rw [hx] at hK; cases hK
        | fn f cs => rw [hx] at hK; cases hK
      | false =>
        rw [hb] at hK
        obtain ⟨ys, f2, hK2, h2⟩ := ih2 hK
        refine ⟨(k1.zero, ys), f2, hK2, fun l hl fs places off pre z hf hp hpl hpre hz => ?_⟩
        have hpa := places_at hT hf hp
        cases places with
        | nil => exact hpa.elim
        | cons p pl =>
          obtain ⟨rfl, f, fr, rfl, hf2, hp2⟩ := hpa
          obtain ⟨c1, c2, rfl, hz1, hz2⟩ := VR.zero_split hz
          obtain ⟨cs, g1, g2, g3⟩ := h2 l hl (off := off + k1.sz) (pre := pre ++ c1) (z := c2) hf2 hp2 (fun m => by have := hpl (m + 1); simpa [Nat.add_assoc, Nat.add_comm 1 m] using this) (by rw [List.length_append, hpre, hz1.len]) hz2
          refine ⟨c1 ++ cs, ⟨c1, cs, rfl, hz1, g1⟩, by rw [← List.append_assoc, g2, List.append_assoc], fun zo i hi => ?_⟩
          simp only [nilOffs, hb, List.mem_append] at hi
          rcases hi with hi | hi
          · obtain ⟨rfl, _, h3⟩ := nil1_eq hi
            have hl1 : 0 < c1.length := by rw [hz1.len, h3]; exact Nat.one_pos
            rw [Nat.sub_self, List.getElem?_append_left hl1, List.getElem?_append_left hl1]
          · have := g3 zo i hi
            have hge := (nilOffs_ge hi).1
            rw [List.getElem?_append_right (by rw [hz1.len]; omega), List.getElem?_append_right (by rw [hz1.len]; omega), hz1.len, Nat.sub_sub]
            exact this
  | _ => intro j ps K hK; simp [buildK] at hK
theorem build_ok {P : Program} (hP : C.P = P) (hT : TyOk P T) (h : RelE C S E a) {t : TypeId} {k1 k2 : Ki} (hk : T.kind t = some (.pair k1 k2)) {ps : Array (Nat × Operand)} {K : (Ki.pair k1 k2).den → List Nat → Option R}
    (hK : buildK S.rows (opv S.sl) (.pair k1 k2) 0 ps.toList K = some r) (ho : o.op = .build t ps) : ∃ x fz, K x fz = some r ∧ OpOk C S E q a o { v := .one (bldV T o.dst t (.pair k1 k2) x ps.toList), fz := fz, rd := .pure } := by
  subst hP
  obtain ⟨fs, hu, hf⟩ := struct_of hT hk
  obtain ⟨⟨i, z, hi, hsz, hz, hzv, _⟩, _⟩ := hT.kd t _ hk
  have hi' := hi
  obtain ⟨places, hp, _⟩ := fields_places hT hf
  obtain ⟨x, fz, hK1, h1⟩ := buildK_ok hT h (fun i => (places.toArray)[i]?) hK
  obtain ⟨cs, g1, g2, g3⟩ := h1 fz (fun i hi => hi) (pre := []) hf hp (fun i => by simp) rfl (hzv E.w ((E.drops fz).F C))
  refine ⟨x, fz, hK1, ok_frz h (v := .agg cs.toArray) (fun w => ?_) ?_⟩
  · have hb : C.P.built t (ps.map fun x => (x.1, a.eval x.2)).toList = some cs.toArray := by
      simp only [List.nil_append] at g2
      unfold Program.built
      simp only [hi, hu, hz, hp, Array.toList_map]
      simpa using g2
    simp [execOp, ho, run_build w t _ _ hb]
  · have : VRv (E.drops fz).w ((E.drops fz).F C) (.pair k1 k2) x (.agg cs.toArray) := by
      unfold VRv
      rw [if_pos (show (Ki.pair k1 k2).agg = true from rfl)]
      exact ⟨cs, rfl, g1⟩
    show SVR C (E.drops fz) (bldV T o.dst t (.pair k1 k2) x ps.toList) (.agg cs.toArray)
    unfold bldV
    split
    · rename_i zo hm hzo
      refine ⟨this, fun i hi => ?_⟩
      obtain ⟨i', z', q1, q2, q3⟩ := hT.zo t zo hzo
      rw [hi'] at q1
      cases q1
      rw [hz] at q2
      cases q2
      have q4 := g3 zo i hi
      rw [Nat.sub_zero] at q4
      have q5 := nilAt_ok (nilOffs_ge hi).2 q3
      rw [← q4] at q5
      simpa [Value.cells] using q5
    · exact this
theorem ER_iff {w : World} {F : Nat → Prop} {k : Ki} : ∀ {xs : List k.den} {cs : List Value}, ER w F k xs cs ↔ ERl (fun x c => VR w F k x c) xs cs
  | [], _ => Iff.rfl
  | x :: r, _ => ⟨fun ⟨c1, c2, h0, h1, h2⟩ => ⟨c1, c2, h0, h1, ER_iff.1 h2⟩, fun ⟨c1, c2, h0, h1, h2⟩ => ⟨c1, c2, h0, h1, ER_iff.2 h2⟩⟩
theorem ERl.at {α : Type} {R : α → List Value → Prop} {s : Nat} (hR : ∀ x c, R x c → c.length = s) : ∀ {xs : List α} {cs : List Value} {i : Nat} (hi : i < xs.length), ERl R xs cs → ∃ pre ds post, cs = pre ++ ds ++ post ∧ pre.length = i * s ∧ R xs[i] ds ∧ ∀ y ds', R y ds' → ERl R (xs.set i y) (pre ++ ds' ++ post)
  | x :: r, _, 0, _, h => by
    obtain ⟨c1, c2, rfl, h1, h2⟩ := h
    exact ⟨[], c1, c2, rfl, by simp, h1, fun y ds' hy => ⟨ds', c2, rfl, hy, h2⟩⟩
  | x :: r, _, i + 1, hi, h => by
    obtain ⟨c1, c2, rfl, h1, h2⟩ := h
    obtain ⟨pre, ds, post, rfl, g1, g2, g3⟩ := ERl.at hR (i := i) (by simpa using hi) h2
    refine ⟨c1 ++ pre, ds, post, by simp [List.append_assoc], by rw [List.length_append, g1, hR x c1 h1, Nat.add_mul, Nat.one_mul, Nat.add_comm], g2, fun y ds' hy => ?_⟩
    exact ⟨c1, pre ++ ds' ++ post, by simp [List.append_assoc], h1, g3 y ds' hy⟩
theorem arr_of {P : Program} (hT : TyOk P T) {t : TypeId} {n : Nat} {k : Ki} (hk : T.kind t = some (.arr n k)) : ∃ e, P.underlying t = some (.array n e) ∧ KindAt T P e k ∧ 0 < k.sz ∧ T.kind e = some k := by
  obtain ⟨_, e, h1, h2, h3⟩ := hT.kd t _ hk
  exact ⟨e, h1, hT.kd e k h2, h3, h2⟩
theorem arr_value {w : World} {F : Nat → Prop} {n : Nat} {k : Ki} {xs : List k.den} {v : Value} (h : VRv w F (.arr n k) xs v) : ∃ cs : List Value, v = .agg cs.toArray ∧ List.length xs = n ∧ ERl (fun x c => VR w F k x c) xs cs := by
  obtain ⟨cs, h1, h2⟩ : ∃ cs : List Value, v = .agg cs.toArray ∧ VR w F (.arr n k) xs cs := h
  exact ⟨cs, h1, h2.1, h2.2⟩
/-- An array's element. -/
theorem index_arr {P : Program} (hT : TyOk P T) {t : TypeId} {n : Nat} {k : Ki} (hk : T.kind t = some (.arr n k)) {xs : List k.den} {v : Value} (hv : VRv E.w (E.F C) (.arr n k) xs v) {i : Int} (h0 : 0 ≤ i) (h1 : i < ((n : Nat) : Int)) (ik : IntKind) :
    ∃ v', VRv E.w (E.F C) k (xs.getD i.toNat k.zero) v' ∧ ∀ w, (Instr.index t v (.int ik i)).run P w = .ok v' w := by
  obtain ⟨e, hu, hke, hp, _⟩ := arr_of hT hk
  obtain ⟨cs, rfl, hl, hE⟩ := arr_value hv
  have hi : i.toNat < xs.length := by omega
  obtain ⟨pre, ds, post, rfl, g1, g2, _⟩ := ERl.at (s := k.sz) (fun x c hc => VR.len hc) hi hE
  have hx : xs.getD i.toNat k.zero = xs[i.toNat] := by simp [List.getD_eq_getElem?_getD, hi]
  refine ⟨mkV k ds, by rw [hx]; exact VRv.of_cells g2, fun w => ?_⟩
  have := part_ok hke (pre := pre) (post := post) g2.len w
  rw [g1] at this
  simp [Instr.index, asIntOf, run_underlying hu, h0, h1, hke.size w]
  simpa using this
theorem indexAddr_arr {P : Program} (hT : TyOk P T) {t : TypeId} {n : Nat} {k : Ki} (hk : T.kind t = some (.arr n k)) {i : Int} (h0 : 0 ≤ i) (h1 : i < ((n : Nat) : Int)) (ik : IntKind) (b o : Nat) (w : World) :
    (Instr.indexAt t (.pointer (some ⟨b, o, none⟩)) (.int ik i)).run P w = .ok (.pointer (some ⟨b, o + i.toNat * k.sz, none⟩)) w := by
  obtain ⟨e, hu, hke, hp, _⟩ := arr_of hT hk
  simp [Instr.indexAt, Instr.sureAddr, asIntOf, run_underlying hu, h0, h1, hke.size w, add_at]
theorem ref_arr {n : Nat} {k : Ki} {xs : List k.den} {v : Value} (h : SVR C E (.ref (.arr n k) xs) v) {i : Nat} (hi : i < n) : ∃ b o, v = .pointer (some ⟨b, o, none⟩) ∧ SVR C E (.ref k (xs.getD i k.zero)) (.pointer (some ⟨b, o + i * k.sz, none⟩)) := by
  obtain ⟨b, o, ds, h1, h2, h3, h4⟩ := h
  obtain ⟨hl, hE⟩ : List.length xs = n ∧ ERl (fun x c => VR E.w (E.F C) k x c) xs ds := h3
  have hi' : i < xs.length := by omega
  obtain ⟨pre, d, post, rfl, g1, g2, _⟩ := ERl.at (s := k.sz) (fun x c hc => VR.len hc) hi' hE
  refine ⟨b, o, h1, b, o + i * k.sz, d, rfl, h2, by simpa [List.getD_eq_getElem?_getD, hi'] using g2, ?_⟩
  rw [List.append_assoc] at h4
  have h5 := h4.app.2.app.1
  rwa [g1] at h5
theorem build_arr {P : Program} (hP : C.P = P) (hT : TyOk P T) (h : RelE C S E a) {t : TypeId} {n : Nat} {k : Ki} (hk : T.kind t = some (.arr n k)) {ps : Array (Nat × Operand)} {K : List k.den → List Nat → Option R}
    (hK : (partsK S.rows (opv S.sl) k ps.toList 0 fun xs fz => match Nat.beq xs.length n with | true => K xs fz | false => none) = some r) (ho : o.op = .build t ps) : ∃ x fz, K x fz = some r ∧ OpOk C S E q a o { v := .one (.val (.arr n k) x), fz := fz, rd := .pure } := by
  subst hP
  obtain ⟨e, hu, hke, hp, _⟩ := arr_of hT hk
  obtain ⟨⟨i, z, hi, hsz, hz, hzv, _⟩, _⟩ := hT.kd t _ hk
  obtain ⟨xs, fz, hK1, h1⟩ := partsK_ok h (size := k.sz) rfl hK
  split at hK1
  · rename_i hn
    have hn := Nat.eq_of_beq_eq_true hn
    obtain ⟨cs, g1, g2⟩ := h1 fz (fun i hi => hi)
    have hzl : z.cells.toList.length = n * k.sz := by
      have := (hzv E.w (E.F C)).len
      simpa [Ki.sz] using this
    have g3 := g2 [] z.cells.toList (by simp) (by rw [hzl, hn])
    refine ⟨xs, fz, hK1, ok_frz h (v := .agg cs.toArray) (fun w => ?_) ?_⟩
    · simp only [List.nil_append, Array.toArray_toList] at g3
      simp [execOp, ho, Instr.build, zeroValue, typeInfo, hi, hz, run_underlying hu, hke.size w]
      rw [g3]
      rfl
    · show VRv (E.drops fz).w ((E.drops fz).F C) (.arr n k) xs (.agg cs.toArray)
      unfold VRv
      rw [if_pos (show (Ki.arr n k).agg = true from rfl)]
      exact ⟨cs, rfl, hn, ER_iff.1 g1⟩
  · cases hK1
end
end Go.Proofs.YtlioalaehkohlaaDoor.Vm
