/- Conversions and loads. Conditions: as each theorem states them. -/
import Derived.Test.YtlioalaehkohlaaDoorV12
import Derived.Laws.CopyRow
namespace Go.Proofs.YtlioalaehkohlaaDoor.Vm
open Go Go.RowKit
set_option linter.unusedVariables false
set_option linter.unusedSimpArgs false
section
variable {C : Ctx} {S : St} {E : Env} {q : Nat} {a : Act} {o : Oper} {R : Type} {T : Tys} {r : R}
theorem sbytes_len (s : ByteArray) : (sbytes s).length = s.size := by
  rw [sbytes, List.length_map, Array.length_toList]; rfl
theorem ER.nums (w : World) (F : Nat → Prop) (k : IntKind) : ∀ xs : List Int, ER w F (.int k) xs (xs.map (Value.int k))
  | [] => rfl
  | x :: r => ⟨[.int k x], r.map (Value.int k), rfl, rfl, ER.nums w F k r⟩
theorem bytes_heap (w : World) (e : TypeId) (s : ByteArray) : (Lib.bytesWorld w e s).heap[w.heap.size]? = some (.cells (Lib.bytesCells w e s) e ((Lib.bytesCells w e s).size, (Lib.bytesCells w e s).size + 1)) := by
  simp [Lib.bytesWorld, World.freeze, World.alloc, World.drew, -World.alloc_eq, -World.drew_eq, Array.getElem_modify]
theorem bytes_wide (w : World) (e : TypeId) (s : ByteArray) : Wider w (Lib.bytesWorld w e s) := by
  refine ⟨?_, ?_, ?_, ?_, fun b hb => Lib.bytesWorld_at_old w e s b hb⟩
  all_goals simp [Lib.bytesWorld, World.freeze, World.alloc, World.drew, -World.alloc_eq, -World.drew_eq]
theorem bytes_size (w : World) (e : TypeId) (s : ByteArray) : (Lib.bytesWorld w e s).heap.size = w.heap.size + 1 := by
  simp [Lib.bytesWorld, World.freeze, World.alloc, World.drew, -World.alloc_eq, -World.drew_eq]
theorem toBytes_ok {P : Program} (hP : C.P = P) (hT : TyOk P T) (h : RelE C S E a) {src dst : TypeId} {s : ByteArray} (hsz : s.size ≤ maxLen) (hk : T.kind dst = some (.list (.int .u8))) {u : TypeDesc} (hu : P.underlying src = some u) {x : Operand} (hx : a.eval x = .string s) (ho : o.op = .convert src dst x) :
    OpOk C S E q a o { v := .one (.val (.list (.int .u8)) (sbytes s)) } := by
  subst hP
  obtain ⟨e, hd, hs, hp, hke, _⟩ := elem_size hT hk E.w
  have he : C.P.underlying e = some (.int .u8) := (hT.kd e _ hke).2
  have hrun : (execOp a.eval o).run C.P E.w = .ok (.value (.slice (some ⟨E.w.heap.size, 0, none⟩) s.size (grownCap E.w s.size 0 e))) (Lib.bytesWorld E.w e s) := by
    simp [execOp, ho, hx, Lib.run_convert_string_bytes E.w src dst e s hu hd he]
  refine ok_run hrun ⟨_, rfl, h.wide (bytes_wide E.w e s), ?_, fun id hid => .inl hid, Fr.wide h (bytes_wide E.w e s) _⟩
  have hl : (sbytes s).length = s.size := sbytes_len s
  have hc : CellsAt (Lib.bytesWorld E.w e s) E.w.heap.size 0 ((sbytes s).map (Value.int .u8)) := fun j v hj => by
    rw [cell_of_row _ _ _ _ _ _ (bytes_heap E.w e s), Nat.zero_add]
    rw [List.getElem?_map] at hj
    have hj' : j < s.data.size := by
      have := (List.getElem?_eq_some_iff.1 (show ((sbytes s).map (Value.int .u8))[j]? = some v by rw [List.getElem?_map]; exact hj)).1
      rw [List.length_map, hl] at this
      exact this
    simp only [sbytes, List.getElem?_map] at hj
    unfold Lib.bytesCells
    rw [Array.getElem?_append_left (by simpa using hj')]
    rw [← Array.getElem?_toList, Array.toList_map, List.getElem?_map]
    rw [← hj]
    cases s.data.toList[j]? <;> rfl
  have hF : Env.F C { E with w := Lib.bytesWorld E.w e s } E.w.heap.size := by
    refine ⟨?_, .inr (.inl h.keep.size), by show E.w.heap.size < (Lib.bytesWorld E.w e s).heap.size; rw [bytes_size]; omega⟩
    cases hown : E.own E.w.heap.size with
    | none => rfl
    | some y => exact absurd (h.ownlt _ y hown).1 (Nat.lt_irrefl _)
  have := VRv.of_list (w := Lib.bytesWorld E.w e s) (F := Env.F C { E with w := Lib.bytesWorld E.w e s }) (k := .int .u8) (xs := sbytes s) (c := grownCap E.w s.size 0 e) hF (ER.nums _ _ _ (sbytes s)) hc (by rw [hl]; exact grownCap_ge _ _ _ _) (grownCap_le_maxLen _ _ _ _ hsz)
  rw [hl] at this
  exact this
theorem push_strOf : ∀ (ns : List Int) (b : ByteArray), ns.foldl (fun r n => r.push (UInt8.ofNat n.toNat)) b = ⟨(b.data.toList ++ ns.map fun n => UInt8.ofNat n.toNat).toArray⟩
  | [], b => by simp
  | n :: ns, b => by
    rw [List.foldl_cons, push_strOf ns]
    congr 1
    simp [ByteArray.push]
theorem ER.ints {w : World} {F : Nat → Prop} {k : IntKind} : ∀ {xs : List Int} {cs : List Value}, ER w F (.int k) xs cs → cs = xs.map (Value.int k)
  | [], _, h => h
  | x :: r, _, h => by
    obtain ⟨c1, c2, rfl, h1, h2⟩ := h
    rw [h2.ints, show c1 = [.int k x] from h1]
    rfl
theorem toString_ok {P : Program} (hT : TyOk P T) {src dst : TypeId} (hs : T.kind src = some (.list (.int .u8))) (hd : T.kind dst = some .str) {w : World} {F : Nat → Prop} {xs : List Int} {v : Value} (hv : VRv w F (.list (.int .u8)) xs v) :
    (convert src dst v).run P w = .ok (.string (strOf xs)) w := by
  obtain ⟨e, hu, _, _, hke, _⟩ := elem_size hT hs w
  have he : P.underlying e = some (.int .u8) := (hT.kd e _ hke).2
  have hd' : P.underlying dst = some .string := (hT.kd dst _ hd).2
  have hv' : VR w F (.list (.int .u8)) xs [v] := by simpa [VRv, Ki.agg] using hv
  obtain ⟨A, c, h1, h2, h3, h4⟩ := hv'
  have h1' : v = .slice A xs.length c := by simpa using h1
  subst h1'
  rw [run_convert_bytes_string w src dst e A _ c hu he hd']
  cases xs with
  | nil =>
    cases A with
    | none => simp [Conv.bytesToString, strOf]; rfl
    | some ad =>
      have hl : (loadCells ad 0).run P w = .ok (([] : List Int).map (Value.int .u8)).toArray w := by simp [loadCells, loadCellsFrom]
      have := run_bytesToString (P := P) w ad 0 c [] hl
      rw [show (List.length ([] : List Int)) = 0 from rfl, this, push_strOf]
      simp [strOf]
  | cons y r =>
    obtain ⟨b, o, ds, ha, hb, _, _⟩ := h4 0 y (by simp)
    subst ha
    obtain ⟨cs, g1, g2⟩ := ER.gather (w := w) (F := F) (k := .int .u8) (b := b) (xs := y :: r) (o := o) (fun i x hx => by
      obtain ⟨b', o', ds, ha', hb', hv, hc⟩ := h4 i x hx
      cases ha'
      exact ⟨ds, hv, hc⟩)
    have hcs := g1.ints
    have hl : (loadCells ⟨b, o, none⟩ (y :: r).length).run P w = .ok ((y :: r).map (Value.int .u8)).toArray w := by
      have := run_loadCells_list (P := P) w ⟨b, o, none⟩ cs (fun j v hj => by rw [add_at]; exact g2 j v hj)
      rw [hcs] at this
      simpa using this
    rw [run_bytesToString (P := P) w ⟨b, o, none⟩ _ c (y :: r) hl, push_strOf]
    simp [strOf]
theorem rdK_agg {k k' : Ki} {x : k'.den} {K : k.den → List Nat → Option R} (h : rdK S.rows k (.val k' x) K = some r) : k.agg = k'.agg := by
  cases k with
  | nl k => cases k' <;> simp [rdK, rdN] at h <;> rfl
  | list k =>
    cases k' with
    | nl k' => rfl
    | list k' => rfl
    | _ => simp [rdK, unnl, rd1] at h
  | _ =>
    simp only [rdK, rd1] at h
    split at h
    · rename_i e; rw [e]
    · cases h
theorem rdK_noagg {k : Ki} {s : SV} {K : k.den → List Nat → Option R} (hs : ∀ k' x, s ≠ .val k' x) (h : rdK S.rows k s K = some r) : k.agg = false := by
  cases k with
  | nl k => rfl
  | list k => rfl
  | int _ => rfl
  | bool => rfl
  | str => rfl
  | ref _ => rfl
  | _ =>
    cases s with
    | val k' x => exact absurd rfl (hs k' x)
    | row id =>
      simp only [rdK, rd1] at h
      split at h
      · split at h
        · rename_i e; cases e
        · cases h
      · cases h
    | _ => simp [rdK, rd1] at h
/-- What a cell, or an array's cells, hold. -/
theorem rdK_cell {k : Ki} {s : SV} {K : k.den → List Nat → Option R} (hK : rdK S.rows k s K = some r) : ∃ x fz, K x fz = some r ∧
    ∀ {E : Env} {a : Act} {cs : List Value} {l : List Nat}, RelE C S E a → SVc C E s cs → (∀ i ∈ fz, i ∈ l) → VR (E.drops l).w ((E.drops l).F C) k x cs := by
  obtain ⟨x, fz, h1, h2⟩ := rdK_ok (C := C) hK
  refine ⟨x, fz, h1, fun {E a cs l} h hs hl => ?_⟩
  by_cases hv : ∃ k' y, s = .val k' y
  · obtain ⟨k', y, rfl⟩ := hv
    have ha := rdK_agg hK
    have hs' : VR E.w (E.F C) k' y cs := hs
    have h3 := h2 h (v := mkV k' cs) (VRv.of_cells hs') hl
    unfold VRv at h3
    unfold mkV at h3
    split at h3
    · rename_i hk
      obtain ⟨cs', e1, e2⟩ := h3
      rw [if_pos (by rw [← ha]; exact hk)] at e1
      have : cs = cs' := by
        have e3 : cs.toArray = cs'.toArray := by cases e1; rfl
        simpa using congrArg Array.toList e3
      rw [this]; exact e2
    · rename_i hk
      rw [if_neg (by rw [← ha]; exact hk)] at h3
      have hl1 : cs.length = 1 := by
        rw [hs'.len]
        have : k'.agg = false := by rw [← ha]; simpa using hk
        cases k' <;> simp [Ki.agg] at this <;> rfl
      obtain ⟨u, rfl⟩ := List.length_eq_one_iff.1 hl1
      exact h3
  · have ha := rdK_noagg (fun k' y e => hv ⟨k', y, e⟩) hK
    obtain ⟨v, rfl, h3⟩ : ∃ v, cs = [v] ∧ SVR C E s v := by
      cases s with
      | val k' y => exact absurd ⟨k', y, rfl⟩ hv
      | _ => exact hs
    have h4 := h2 h h3 hl
    unfold VRv at h4
    rwa [if_neg (by rw [ha]; simp)] at h4
/-- A value out of a box's cells. -/
theorem packK_ok : ∀ {k : Ki} {cs : List SV} {K : k.den → List Nat → List SV → Option R}, packK S.rows k cs K = some r → ∃ x fz c1 c2, K x fz c2 = some r ∧ cs = c1 ++ c2 ∧
    ∀ {E : Env} {a : Act} {l : List Nat} {vs : List Value}, RelE C S E a → SVcs C E c1 vs → (∀ i ∈ fz, i ∈ l) → VR (E.drops l).w ((E.drops l).F C) k x vs := by
  intro k
  have single : ∀ {k : Ki} {cs : List SV} {K : k.den → List Nat → List SV → Option R}, (match cs with | s :: cs => rdK S.rows k s fun x fz => K x fz cs | [] => none) = some r → ∃ x fz c1 c2, K x fz c2 = some r ∧ cs = c1 ++ c2 ∧
      ∀ {E : Env} {a : Act} {l : List Nat} {vs : List Value}, RelE C S E a → SVcs C E c1 vs → (∀ i ∈ fz, i ∈ l) → VR (E.drops l).w ((E.drops l).F C) k x vs := by
    intro k cs K hK
    cases cs with
    | nil => cases hK
    | cons s cs =>
      obtain ⟨x, fz, hK1, hx⟩ := rdK_cell (C := C) hK
      refine ⟨x, fz, [s], cs, hK1, rfl, fun {E a l vs} h hs hl => ?_⟩
      obtain ⟨c1, c2, rfl, h1, h2⟩ : ∃ c1 c2, vs = c1 ++ c2 ∧ SVc C E s c1 ∧ c2 = [] := hs
      rw [h2, List.append_nil]
      exact hx h h1 hl
  induction k with
  | unit =>
    intro cs K hK
    exact ⟨(), [], [], cs, hK, rfl, fun {E a l vs} h hs hl => by
      have : vs = [] := hs
      subst this; rfl⟩
  | pair k1 k2 ih1 ih2 =>
    intro cs K hK
    obtain ⟨x, f1, c1, c2, hK1, rfl, h1⟩ := ih1 hK
    obtain ⟨y, f2, c3, c4, hK2, rfl, h2⟩ := ih2 hK1
    refine ⟨(x, y), f1 ++ f2, c1 ++ c3, c4, hK2, by rw [List.append_assoc], fun {E a l vs} h hs hl => ?_⟩
    obtain ⟨v1, v2, rfl, s1, s2⟩ := ERl.split hs
    exact ⟨v1, v2, rfl, h1 h s1 (fun i hi => hl i (List.mem_append_left _ hi)), h2 h s2 (fun i hi => hl i (List.mem_append_right _ hi))⟩
  | int ik => intro cs K hK; cases cs with
    | nil => simp [packK] at hK
    | cons s cs => exact single hK
  | bool => intro cs K hK; cases cs with
    | nil => simp [packK] at hK
    | cons s cs => exact single hK
  | str => intro cs K hK; cases cs with
    | nil => simp [packK] at hK
    | cons s cs => exact single hK
  | list k _ => intro cs K hK; cases cs with
    | nil => simp [packK] at hK
    | cons s cs => exact single hK
  | arr n k _ => intro cs K hK; cases cs with
    | nil => simp [packK] at hK
    | cons s cs => exact single hK
  | ref k _ => intro cs K hK; cases cs with
    | nil => simp [packK] at hK
    | cons s cs => exact single hK
  | nl k _ => intro cs K hK; cases cs with
    | nil => simp [packK] at hK
    | cons s cs => exact single hK
theorem loadBox_ok {P : Program} (hP : C.P = P) (hT : TyOk P T) (h : RelE C S E a) {t : TypeId} {b off : Nat} {B : BoxC} (hb : S.box b = some B) {cs : List SV} (hd : dropC B.cs off = some cs) {K : SV → List Nat → Option R} (hK : loadK T S.rows t cs K = some r) :
    ∃ s fz v, K s fz = some r ∧ (∀ w, w.heap[E.bb b]? = E.w.heap[E.bb b]? → (Instr.loadAt t (.pointer (some ⟨E.bb b, off, none⟩))).run P w = .ok v w) ∧ SVR C (E.drops fz) s v := by
  subst hP
  obtain ⟨hown, arr, hh, hsv, hone⟩ := h.boxes b B hb
  obtain ⟨_, hdrop⟩ := dropC_ok hd hsv
  have hcells : ∀ w, w.heap[E.bb b]? = E.w.heap[E.bb b]? → CellsAt w (E.bb b) off (arr.toList.drop off) := fun w hw j v hj => by
    rw [cell_of_row w _ _ arr B.t (0, 0) (hw.trans hh), ← Array.getElem?_toList]
    rw [List.getElem?_drop] at hj
    exact hj
  have oneCase : ∀ {s : SV} {rest : List SV}, cs = s :: rest → s.single = true → (∀ w, (isAgg t).run C.P w = .ok false w) → ∃ v, (∀ w, w.heap[E.bb b]? = E.w.heap[E.bb b]? → (Instr.loadAt t (.pointer (some ⟨E.bb b, off, none⟩))).run C.P w = .ok v w) ∧ SVR C (E.drops []) s v := by
    intro s rest hd hsg ha
    subst hd
    obtain ⟨c1, c2, hc, g1, g2⟩ : ∃ c1 c2, arr.toList.drop off = c1 ++ c2 ∧ SVc C E s c1 ∧ SVcs C E rest c2 := hdrop
    obtain ⟨v, rfl, g3⟩ := g1.to hsg
    rw [hc] at hcells
    exact ⟨v, fun w hw => by
      have hv := hcells w hw 0 v rfl
      simp only [Nat.add_zero] at hv
      simp [Instr.loadAt, Instr.sureAddr, loadVar, ha w, hv], by rw [drops_nil]; exact g3⟩
  unfold loadK at hK
  split at hK
  · rename_i k hk
    have hkd := hT.kd t k hk
    split at hK
    · rename_i ha
      obtain ⟨x, fz, c1, c2, hK1, hc, hx⟩ := packK_ok (C := C) hK
      subst hc
      obtain ⟨v1, v2, hc, s1, s2⟩ := ERl.split hdrop
      have hvr := hx h s1 (fun i hi => hi)
      have hat : ∀ w, w.heap[E.bb b]? = E.w.heap[E.bb b]? → CellsAt w (E.bb b) off v1 := fun w hw => by
        have := hcells w hw
        rw [hc] at this
        exact this.app.1
      exact ⟨.val k x, fz, _, hK1, fun w hw => load_cells hkd hvr.len (hat w hw), VRv.of_cells hvr⟩
    · rename_i ha
      split at hK
      · rename_i s rest
        split at hK
        · rename_i hsg
          obtain ⟨v, g1, g2⟩ := oneCase rfl hsg (fun w => by rw [hkd.agg w, ha])
          exact ⟨s, [], v, hK, g1, g2⟩
        · cases hK
      · cases hK
  · rename_i hkn
    split at hK
    · rename_i _ s rest hp
      split at hK
      · rename_i hsg
        have hone : T.one t = true := by
          unfold Tys.one
          simp only [hkn, hp]
        obtain ⟨v, g1, g2⟩ := oneCase rfl hsg (fun w => (one_size hT hone w).2)
        exact ⟨s, [], v, hK, g1, g2⟩
      · cases hK
    · cases hK
/-- An element of an array that lies in a box. -/
theorem loadAel_ok {P : Program} (hP : C.P = P) (hT : TyOk P T) (h : RelE C S E a) {t : TypeId} {b off n i : Nat} {B : BoxC} (hb : S.box b = some B) {k : Ki} {xs : List k.den} {rest : List SV} (hd : dropC B.cs off = some (.val (.arr n k) xs :: rest)) (hk : T.kind t = some k) (hi : i < n) :
    ∃ v, (∀ w, w.heap[E.bb b]? = E.w.heap[E.bb b]? → (Instr.loadAt t (.pointer (some ⟨E.bb b, off + i * k.sz, none⟩))).run P w = .ok v w) ∧ VRv E.w (E.F C) k (xs.getD i k.zero) v := by
  subst hP
  obtain ⟨hown, arr, hh, hsv, hone⟩ := h.boxes b B hb
  obtain ⟨_, hdrop⟩ := dropC_ok hd hsv
  obtain ⟨c1, c2, hc, e1, e2⟩ : ∃ c1 c2, arr.toList.drop off = c1 ++ c2 ∧ VR _ _ (.arr n k) xs c1 ∧ SVcs C E rest c2 := hdrop
  obtain ⟨hl, hE⟩ : List.length xs = n ∧ ERl (fun x c => VR E.w (E.F C) k x c) xs c1 := e1
  obtain ⟨cp, ds, cq, rfl, f1, f2, _⟩ := ERl.at (s := k.sz) (fun x c hc => VR.len hc) (by omega : i < xs.length) hE
  have hx : xs.getD i k.zero = xs[i]'(by omega) := by simp [List.getD_eq_getElem?_getD, (by omega : i < xs.length)]
  rw [hx]
  refine ⟨_, fun w hw => load_cells (hT.kd t k hk) f2.len (fun j v hj => ?_), VRv.of_cells f2⟩
  rw [cell_of_row w _ _ arr B.t (0, 0) (hw.trans hh), ← Array.getElem?_toList]
  have h1 : (arr.toList.drop off)[i * k.sz + j]? = some v := by
    rw [hc, List.append_assoc, List.append_assoc, List.getElem?_append_right (by omega), f1, Nat.add_sub_cancel_left, List.getElem?_append_left (List.getElem?_eq_some_iff.1 hj).1]
    exact hj
  rw [List.getElem?_drop] at h1
  rwa [Nat.add_assoc]
theorem newRow_same (h : RelE C S E a) {id : Nat} {rr : RowC} (hr : S.rows id = some rr) : RelE C (S.newRow id rr) E a :=
  have hs : ∀ j r, (S.newRow id rr).rows j = some r → S.rows j = some r := fun j r hj => by
    have hj' : sel j id (some rr) (S.rows j) = some r := hj
    rw [sel_eq] at hj'
    split at hj'
    · rename_i e; rw [e, hr]; exact hj'
    · exact hj'
  { h with
    slots := fun t => h.slots t
    rows := fun j r hj => h.rows j r (hs j r hj)
    boxes := fun j b hb => h.boxes j b hb
    idr := fun j r hj => h.idr j r (hs j r hj)
    idb := fun j b hb => h.idb j b hb
    nests := fun j n hn => h.nests j n (nest_sel hn).2
    idn := fun j n hn => h.idn j n (nest_sel hn).2 }
/-- A row is copied into a row of one's own. -/
theorem copy_core {P : Program} (hP : C.P = P) (hT : TyOk P T) (h : RelE C S E a) {t u : TypeId} {id : Nat} {rr : RowC} (hr : S.rows id = some rr) (hf : rr.fz = false) (hk : T.kind t = some (.list rr.k)) (hsz : rr.k.sz = 1) {ys : List rr.k.den} {v2 : Value} (hy : VRv E.w (E.F C) (.list rr.k) ys v2) (ty : TypeId) :
    ∃ w', (Builtin.copy_ #[t, u] ty #[E.rv id, v2]).run P E.w = .ok (goInt (((if ys.length < rr.xs.length then ys.length else rr.xs.length) : Nat) : Int)) w' ∧ RelE C (S.newRow id ⟨rr.e, rr.k, List.take rr.xs.length ys ++ List.drop ys.length rr.xs, false⟩) { E with w := w' } a ∧ ∀ fz, Fr C E { E with w := w' } [.inl id] fz := by
  subst hP
  obtain ⟨e', hu, hs, hp, hke, hse⟩ := elem_size hT hk E.w
  obtain ⟨⟨i, z, hi, hsi, hz, hzv, hby, hby2⟩, _⟩ := hT.kd e' rr.k hke
  have hi1 : (C.P.info? e').map (·.size) = some 1 := by rw [hi]; simp [hsi, hsz]
  obtain ⟨A, c2, rfl, hl, hm, hh⟩ := list_cells hy
  have hrr : (⟨rr.e, rr.k, rr.xs, false⟩ : RowC) = rr := by rw [← hf]
  have same : ys.length = 0 ∨ rr.xs.length = 0 → ∀ d n c, E.rv id = .slice d n c → n = rr.xs.length → ∃ w', (Builtin.copy_ #[t, u] ty #[E.rv id, .slice A ys.length c2]).run C.P E.w = .ok (goInt (((if ys.length < rr.xs.length then ys.length else rr.xs.length) : Nat) : Int)) w' ∧ RelE C (S.newRow id ⟨rr.e, rr.k, List.take rr.xs.length ys ++ List.drop ys.length rr.xs, false⟩) { E with w := w' } a ∧ ∀ fz, Fr C E { E with w := w' } [.inl id] fz := by
    intro h0 d n c hv hn
    have hm0 : (if ys.length < rr.xs.length then ys.length else rr.xs.length) = 0 := by split <;> omega
    have hmin : Nat.min ys.length n = 0 := by rw [hn]; exact (Nat.min_eq_zero_iff).2 h0
    refine ⟨E.w, ?_, ?_, fun fz => Fr.refl _ _ _⟩
    · rw [hv, hm0]
      exact run_copy_none E.w t u ty e' d A n c ys.length c2 hu hi1 hmin
    · have hl2 : List.take rr.xs.length ys ++ List.drop ys.length rr.xs = rr.xs := by
        rcases h0 with h0 | h0
        · rw [List.eq_nil_of_length_eq_zero h0]; simp
        · rw [List.eq_nil_of_length_eq_zero h0]; simp
      rw [hl2, hrr]
      exact newRow_same h hr
  rcases h.rows id rr hr with ⟨h1, h2⟩ | ⟨g, c, h1, h2, h2', h3, h4⟩
  · exact same (.inr (by rw [h1]; rfl)) none 0 0 h2 (by rw [h1]; rfl)
  · rcases hh with ⟨hy0, _⟩ | ⟨b, o', ds, rfl, hbF, hED, hcD⟩
    · exact same (.inl (by rw [hy0]; rfl)) _ _ _ h1 rfl
    · rw [if_neg (by rw [hf]; simp)] at h4
      obtain ⟨hown, arr, hg, hcs⟩ := h4
      rw [hsz, Nat.mul_one] at hcs
      have hml : (ds.take ys.length).length = ys.length := by rw [List.length_take, hED.len, hsz]; omega
      obtain ⟨m, hmd⟩ : ∃ m, m = if ys.length < rr.xs.length then ys.length else rr.xs.length := ⟨_, rfl⟩
      have hm1 : m ≤ ys.length := by rw [hmd]; split <;> omega
      have hm2 : m ≤ rr.xs.length := by rw [hmd]; split <;> omega
      have hm3 : m = ys.length ∨ m = rr.xs.length := by rw [hmd]; split <;> simp
      have hmin : Nat.min ys.length rr.xs.length = m := by
        rw [hmd]
        show min ys.length rr.xs.length = _
        split <;> omega
      have hET := ER.take m hED
      rw [hsz, Nat.mul_one] at hET
      have hcl : (ds.take m).length = m := by rw [List.length_take, hED.len, hsz]; omega
      have hrun := run_copy_row (P := C.P) E.w t u ty e' g 0 rr.xs.length c ⟨b, o', none⟩ ys.length c2 arr rr.e (ds.take m) hu hi1 hg (by rw [hcl, hmin]) (fun j v hj => by
        rw [List.getElem?_take] at hj
        split at hj
        · rw [add_at]; exact hcD j v hj
        · cases hj) (by rw [hcl]; omega) (fun v hv => hED.one v (List.mem_of_mem_take hv))
      rw [hcl, Nat.zero_add] at hrun
      rw [← hmd, h1]
      refine ⟨_, hrun, ?_, fun fz => Fr.write h hown _⟩
      have hw := setRow_heap E.w g arr (arr.toList.take 0 ++ ds.take m ++ arr.toList.drop m).toArray rr.e (0, 0) hg
      have hF : ∀ b, E.F C b → Env.F C { E with w := E.w.setRow g (arr.toList.take 0 ++ ds.take m ++ arr.toList.drop m).toArray } b ∧ (E.w.setRow g (arr.toList.take 0 ++ ds.take m ++ arr.toList.drop m).toArray).heap[b]? = E.w.heap[b]? := fun b hb => by
        have hne : b ≠ g := fun e => by subst e; rw [hb.1] at hown; cases hown
        exact ⟨⟨hb.1, hb.2.1, by show b < (E.w.setRow g _).heap.size; rw [setRow_size]; exact hb.2.2⟩, setRow_other _ _ _ _ hne⟩
      have hlen : (List.take rr.xs.length ys ++ List.drop ys.length rr.xs).length = rr.xs.length := by
        rw [List.length_append, List.length_take, List.length_drop]; omega
      refine h.writeRow hown _ (h.idr id rr hr) (.inr ⟨g, c, ?_, ?_, h2', ?_, ?_⟩)
      · rw [hlen]; exact h1
      · rw [hlen]; exact h2
      · intro j x hx
        by_cases hj : j < m
        · have hx' : (ys.take m)[j]? = some x := by
            rw [List.getElem?_append_left (by rw [List.length_take]; omega), List.getElem?_take, if_pos (by omega)] at hx
            rw [List.getElem?_take, if_pos hj]; exact hx
          obtain ⟨d, q1, q2⟩ := ER.spread (w := E.w.setRow g (arr.toList.take 0 ++ ds.take m ++ arr.toList.drop m).toArray) (b := g) (o := 0) (hET.mono hF) (cells_in hw rfl rfl) j x hx'
          exact ⟨d, q1, by rw [Nat.zero_add] at q2; exact q2⟩
        · have hmy : m = ys.length := by
            rcases hm3 with e | e
            · exact e
            · have := (List.getElem?_eq_some_iff.1 hx).1
              rw [hlen] at this; omega
          have hx' : rr.xs[j]? = some x := by
            rw [List.getElem?_append_right (by rw [List.length_take]; omega), List.getElem?_drop, List.length_take] at hx
            rw [show ys.length + (j - min rr.xs.length ys.length) = j by omega] at hx
            exact hx
          obtain ⟨d2, g1, g2⟩ := h3 j x hx'
          refine ⟨d2, g1.mono hF, fun n v hn => ?_⟩
          have hc := g2 n v hn
          rw [cell_of_row E.w g _ arr rr.e (0, 0) hg] at hc
          rw [cell_of_row _ g _ _ rr.e (0, 0) hw, List.getElem?_toArray]
          have htl : (arr.toList.take 0 ++ ds.take m).length = m := by rw [List.length_append, hcl]; simp
          rw [List.getElem?_append_right (by rw [htl, hsz]; omega), htl, List.getElem?_drop]
          rw [show m + (j * rr.k.sz + n - m) = j * rr.k.sz + n by rw [hsz]; omega]
          simpa using hc
      · rw [if_neg (by simp)]
        refine ⟨hown, _, hw, ?_⟩
        rw [hsz, Nat.mul_one]
        simp only [List.size_toArray, List.length_append, List.length_take, List.length_drop, Array.length_toList, hED.len, hsz]
        omega
end
end Go.Proofs.YtlioalaehkohlaaDoor.Vm
