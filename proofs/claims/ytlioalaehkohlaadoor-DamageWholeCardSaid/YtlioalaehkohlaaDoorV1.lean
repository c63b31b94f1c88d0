/- The machine's state, and how the program's state is one of it. Conditions: as each theorem states them. -/
import Derived.Test.YtlioalaehkohlaaDoorV0
namespace Go.Proofs.YtlioalaehkohlaaDoor.Vm
open Go Go.RowKit
set_option linter.unusedVariables false
set_option linter.unusedSimpArgs false
/-- A value: of a kind, shared with whoever has it; a slice of the call's own; an address. -/
inductive SV where
  | undef
  | gone
  | nil
  | val (k : Ki) (x : k.den)
  | nn (k : Ki) (xs : List k.den)
  | row (id : Nat)
  | ptr (b o : Nat)
  | elem (id sz i o : Nat)
  | ael (b o n sz i : Nat)
  | ref (k : Ki) (x : k.den)
  | ptrs (l : List (Nat × Nat))
  | pref (b o : Nat)
  | glob (g : Nat)
  | bld (k : Ki) (x : k.den) (ns : List Nat)
inductive SL where
  | one (v : SV)
  | tup (vs : List SV)
  | fn (f : FuncId) (caps : List SV)
structure RowC where
  e : TypeId
  k : Ki
  xs : List k.den
  fz : Bool
structure BoxC where
  t : TypeId
  cs : List SV
/-- a row of rows of one's own: what it holds; which one is taken out -/
structure NestC where
  e : TypeId
  t : TypeId
  k : Ki
  xs : List (List k.den)
  hole : Option Nat
structure St where
  sl : Nat → SL
  rows : Nat → Option RowC
  box : Nat → Option BoxC
  nx : Nat
  nest : Nat → Option NestC := fun _ => none
def sel {β : Type} (t d : Nat) (x y : β) : β := match Nat.beq t d with | true => x | false => y
theorem sel_eq {β : Type} (t d : Nat) (x y : β) : sel t d x y = if t = d then x else y := by
  unfold sel
  by_cases h : t = d
  · subst h; simp
  · have : Nat.beq t d = false := by cases hb : Nat.beq t d <;> first | rfl | exact absurd (Nat.eq_of_beq_eq_true hb) h
    rw [this, if_neg h]
def look {β : Type _} : List (Nat × β) → Nat → Option β
  | [], _ => none
  | (a, b) :: r, t => match Nat.beq a t with | true => some b | false => look r t
/-- a table of the program -/
structure GV where
  k : Ki
  xs : List k.den
structure NS where
  hi : Nat
  ar : List Nat := []
structure Ctx where
  P : Program
  w0 : World
  F0 : Nat → Prop
  own0 : Nat → Prop
  n : NS
  ag : Nat → Value
  gl : List (Nat × GV)
/-- Who owns a block: a row (left), a box (right); where rows and boxes lie. -/
structure Env where
  own : Nat → Option (Nat ⊕ Nat)
  rv : Nat → Value
  bb : Nat → Nat
  w : World
  live : Nat → Prop
def Env.F (C : Ctx) (E : Env) (b : Nat) : Prop := E.own b = none ∧ (C.F0 b ∨ C.w0.heap.size ≤ b ∨ C.own0 b) ∧ b < E.w.heap.size
def SVR (C : Ctx) (E : Env) : SV → Value → Prop
  | .undef, _ => True
  | .gone, v => v = Go.undef
  | .nil, v => v = .slice none 0 0
  | .val k x, v => VRv E.w (E.F C) k x v
  | .nn k xs, v => VRv E.w (E.F C) (.list k) xs v ∧ ∃ ad n c, v = .slice (some ad) n c
  | .row id, v => E.live id ∧ v = E.rv id
  | .ptr b o, v => E.live b ∧ v = .pointer (some ⟨E.bb b, o, none⟩)
  | .elem id sz i o, v => E.live id ∧ ∃ g n c, E.rv id = .slice (some ⟨g, 0, none⟩) n c ∧ v = .pointer (some ⟨g, i * sz + o, none⟩) ∧ i < n
  | .ael b o n sz i, v => E.live b ∧ i < n ∧ v = .pointer (some ⟨E.bb b, o + i * sz, none⟩)
  | .ref k x, v => ∃ b o ds, v = .pointer (some ⟨b, o, none⟩) ∧ E.F C b ∧ VR E.w (E.F C) k x ds ∧ CellsAt E.w b o ds
  | .ptrs l, v => ∃ g c, v = .slice (some ⟨g, 0, none⟩) l.length c ∧ l.length ≤ c ∧ E.F C g ∧ ∀ (i : Nat) (e : Nat × Nat), l[i]? = some e → E.live e.1 ∧ E.w.cell? ⟨g, i, none⟩ = some (.pointer (some ⟨E.bb e.1, e.2, none⟩))
  | .pref b o, v => ∃ g i, v = .pointer (some ⟨g, i, none⟩) ∧ E.F C g ∧ E.live b ∧ E.w.cell? ⟨g, i, none⟩ = some (.pointer (some ⟨E.bb b, o, none⟩))
  | .glob g, v => v = .pointer (some ⟨g, 0, none⟩)
  | .bld k x ns, v => VRv E.w (E.F C) k x v ∧ ∀ o ∈ ns, v.cells.toList[o]? = some (.slice none 0 0)
def SVsR (C : Ctx) (E : Env) (ss : List SV) (vs : List Value) : Prop := vs.length = ss.length ∧ ∀ (i : Nat) (s : SV) (v : Value), ss[i]? = some s → vs[i]? = some v → SVR C E s v
/-- A box's cells: how many a value takes, what they hold. -/
def SV.w : SV → Nat
  | .val k _ => k.sz
  | _ => 1
def SVc (C : Ctx) (E : Env) : SV → List Value → Prop
  | .val k x, cs => VR E.w (E.F C) k x cs
  | s, cs => ∃ v, cs = [v] ∧ SVR C E s v
def SVcs (C : Ctx) (E : Env) : List SV → List Value → Prop := ERl (SVc C E)
def SLR (C : Ctx) (E : Env) : SL → Value → Prop
  | .one s, v => SVR C E s v
  | .tup ss, v => ∃ vs : List Value, v = .tuple vs.toArray ∧ SVsR C E ss vs
  | .fn f ss, v => ∃ vs : List Value, v = .func (.func f) #[] vs.toArray ∧ SVsR C E ss vs
/-- The cells of a row's elements. -/
def RowCells (C : Ctx) (E : Env) (k : Ki) (xs : List k.den) (g : Nat) : Prop := ∀ i x, xs[i]? = some x → ∃ ds, VR E.w (E.F C) k x ds ∧ CellsAt E.w g (i * k.sz) ds
def RowR (C : Ctx) (E : Env) (id : Nat) (r : RowC) : Prop :=
  (r.xs = [] ∧ E.rv id = .slice none 0 0) ∨
  ∃ g c, E.rv id = .slice (some ⟨g, 0, none⟩) r.xs.length c ∧ r.xs.length ≤ c ∧ c ≤ maxLen ∧ RowCells C E r.k r.xs g ∧
    (if r.fz = true then E.F C g else E.own g = some (.inl id) ∧ ∃ arr, E.w.heap[g]? = some (.cells arr r.e (0, 0)) ∧ arr.size = c * r.k.sz)
def BoxR (C : Ctx) (E : Env) (id : Nat) (b : BoxC) : Prop :=
  E.own (E.bb id) = some (.inr id) ∧ ∃ arr, E.w.heap[E.bb id]? = some (.cells arr b.t (0, 0)) ∧ SVcs C E b.cs arr.toList ∧ ∀ u ∈ arr.toList, u.oneCell' = true
/-- An inner row of one's own. -/
def InnR (C : Ctx) (E : Env) (id : Nat) (t : TypeId) (k : Ki) (x : List k.den) (v : Value) : Prop :=
  (x = [] ∧ v = .slice none 0 0) ∨
  ∃ g c, v = .slice (some ⟨g, 0, none⟩) x.length c ∧ x.length ≤ c ∧ c ≤ maxLen ∧ RowCells C E k x g ∧ E.own g = some (.inl id) ∧ ∃ arr, E.w.heap[g]? = some (.cells arr t (0, 0)) ∧ arr.size = c * k.sz
def NestR (C : Ctx) (E : Env) (id : Nat) (n : NestC) : Prop :=
  (n.xs = [] ∧ E.rv id = .slice none 0 0) ∨
  ∃ g c arr, E.rv id = .slice (some ⟨g, 0, none⟩) n.xs.length c ∧ n.xs.length ≤ c ∧ c ≤ maxLen ∧ E.own g = some (.inl id) ∧ E.w.heap[g]? = some (.cells arr n.e (0, 0)) ∧ arr.size = c ∧
    (∀ (i : Nat) (x : List n.k.den), n.xs[i]? = some x → n.hole ≠ some i → ∃ v, arr[i]? = some v ∧ InnR C E id n.t n.k x v ∧ v.ownBlock ≠ some g) ∧
    (∀ (i j : Nat) (vi vj : Value) (b : Nat), i ≠ j → n.hole ≠ some i → n.hole ≠ some j → i < n.xs.length → j < n.xs.length → arr[i]? = some vi → arr[j]? = some vj → vi.ownBlock = some b → vj.ownBlock ≠ some b)
/-- What was there and was not handed is as it was. -/
structure Keep (C : Ctx) (w : World) : Prop where
  os : w.os = C.w0.os
  tape : w.tape = C.w0.tape
  output : w.output = C.w0.output
  size : C.w0.heap.size ≤ w.heap.size
  block : ∀ b, b < C.w0.heap.size → ¬ C.own0 b → w.heap[b]? = C.w0.heap[b]?
/-- The program's tables lie as they were laid. -/
def GlobR (C : Ctx) (E : Env) : Prop := ∀ (g : Nat) (v : GV), look C.gl g = some v → E.F C g ∧ RowCells C E v.k v.xs g
structure RelE (C : Ctx) (S : St) (E : Env) (a : Act) : Prop where
  slots : ∀ t, SLR C E (S.sl t) (a.tmps.getD t undef)
  rows : ∀ id r, S.rows id = some r → RowR C E id r
  boxes : ∀ id b, S.box id = some b → BoxR C E id b
  ownlt : ∀ b o, E.own b = some o → b < E.w.heap.size ∧ (C.w0.heap.size ≤ b ∨ C.own0 b)
  keep : Keep C E.w
  size : a.tmps.size = C.n.hi
  arg : ∀ t, C.n.ar.contains t = true → a.tmps.getD t undef = C.ag t
  defers : a.defers = []
  idr : ∀ id r, S.rows id = some r → E.live id
  idb : ∀ id r, S.box id = some r → E.live id
  glob : GlobR C E
  nests : ∀ id n, S.nest id = some n → NestR C E id n
  idn : ∀ id n, S.nest id = some n → E.live id
def Rel (C : Ctx) (S : St) (a : Act) (w : World) : Prop := ∃ E : Env, E.w = w ∧ RelE C S E a ∧ ∀ id, S.nx ≤ id → ¬ E.live id
/-- From one environment to another: what is shared stays. -/
structure Env.Le (C : Ctx) (E E' : Env) : Prop where
  live : ∀ id, E.live id → E'.live id
  rv : ∀ id, E.live id → E'.rv id = E.rv id
  bb : ∀ id, E.live id → E'.bb id = E.bb id
  F : ∀ b, E.F C b → E'.F C b ∧ E'.w.heap[b]? = E.w.heap[b]?
section
variable {C : Ctx} {E E' : Env}
theorem Env.Le.refl : Env.Le C E E := ⟨fun _ h => h, fun _ _ => rfl, fun _ _ => rfl, fun _ h => ⟨h, rfl⟩⟩
theorem SVR.mono (h : Env.Le C E E') : ∀ {s : SV} {v : Value}, SVR C E s v → SVR C E' s v
  | .undef, _, _ => trivial
  | .gone, _, hs => hs
  | .nil, _, hs => hs
  | .val k x, _, hs => VRv.mono h.F hs
  | .nn k xs, _, hs => ⟨VRv.mono h.F hs.1, hs.2⟩
  | .bld k x ns, _, hs => ⟨VRv.mono h.F hs.1, hs.2⟩
  | .row id, _, hs => ⟨h.live _ hs.1, hs.2.trans (h.rv id hs.1).symm⟩
  | .ptr b o, _, hs => ⟨h.live _ hs.1, by rw [h.bb b hs.1]; exact hs.2⟩
  | .elem id sz i o, _, hs => ⟨h.live _ hs.1, by rw [h.rv id hs.1]; exact hs.2⟩
  | .ael b o n sz i, _, hs => ⟨h.live _ hs.1, hs.2.1, by rw [h.bb b hs.1]; exact hs.2.2⟩
  | .ref k x, _, hs => by
    obtain ⟨b, o, ds, h1, h2, h3, h4⟩ := hs
    exact ⟨b, o, ds, h1, (h.F b h2).1, VR.mono h.F h3, h4.mono (h.F b h2).2⟩
  | .ptrs l, _, hs => by
    obtain ⟨g, c, h1, h2, h3, h4⟩ := hs
    refine ⟨g, c, h1, h2, (h.F g h3).1, fun i e he => ?_⟩
    obtain ⟨k1, k2⟩ := h4 i e he
    exact ⟨h.live _ k1, by rw [h.bb _ k1, cell_of_heap (h.F g h3).2]; exact k2⟩
  | .pref b o, _, hs => by
    obtain ⟨g, i, h1, h2, h3, h4⟩ := hs
    exact ⟨g, i, h1, (h.F g h2).1, h.live _ h3, by rw [h.bb _ h3, cell_of_heap (h.F g h2).2]; exact h4⟩
  | .glob g, _, hs => hs
theorem SVsR.mono (h : Env.Le C E E') {ss : List SV} {vs : List Value} (hs : SVsR C E ss vs) : SVsR C E' ss vs := ⟨hs.1, fun i s v h1 h2 => (hs.2 i s v h1 h2).mono h⟩
theorem SVc.mono (h : Env.Le C E E') {s : SV} {cs : List Value} (hs : SVc C E s cs) : SVc C E' s cs := by
  cases s with
  | val k x => exact VR.mono h.F hs
  | _ => obtain ⟨v, h1, h2⟩ := hs; exact ⟨v, h1, SVR.mono h h2⟩
theorem SVcs.mono (h : Env.Le C E E') {ss : List SV} {cs : List Value} (hs : SVcs C E ss cs) : SVcs C E' ss cs := ERl.imp (fun _ _ hc => hc.mono h) hs
theorem SLR.mono (h : Env.Le C E E') : ∀ {s : SL} {v : Value}, SLR C E s v → SLR C E' s v
  | .one _, _, hs => SVR.mono h hs
  | .tup _, _, ⟨vs, h1, h2⟩ => ⟨vs, h1, h2.mono h⟩
  | .fn _ _, _, ⟨vs, h1, h2⟩ => ⟨vs, h1, h2.mono h⟩
theorem RowCells.mono (h : Env.Le C E E') {k : Ki} {xs : List k.den} {g : Nat} (hg : E'.w.heap[g]? = E.w.heap[g]?) (hr : RowCells C E k xs g) : RowCells C E' k xs g := fun i x hx => by
  obtain ⟨ds, h1, h2⟩ := hr i x hx
  exact ⟨ds, VR.mono h.F h1, h2.mono hg⟩
theorem GlobR.mono (h : Env.Le C E E') (hg : GlobR C E) : GlobR C E' := fun g v hv => ⟨(h.F g (hg g v hv).1).1, (hg g v hv).2.mono h (h.F g (hg g v hv).1).2⟩
theorem RowR.mono (h : Env.Le C E E') {id : Nat} {r : RowC} (hid : E.live id) (hown : ∀ g, E.own g = some (.inl id) → E'.own g = some (.inl id) ∧ E'.w.heap[g]? = E.w.heap[g]?) (hr : RowR C E id r) : RowR C E' id r := by
  rcases hr with ⟨h1, h2⟩ | ⟨g, c, h1, h2, h2', h3, h4⟩
  · exact .inl ⟨h1, (h.rv id hid).trans h2⟩
  · refine .inr ⟨g, c, (h.rv id hid).trans h1, h2, h2', ?_, ?_⟩
    · by_cases hf : r.fz = true
      · rw [if_pos hf] at h4; exact h3.mono h (h.F g h4).2
      · rw [if_neg hf] at h4; exact h3.mono h (hown g h4.1).2
    · by_cases hf : r.fz = true
      · rw [if_pos hf] at h4 ⊢; exact (h.F g h4).1
      · rw [if_neg hf] at h4 ⊢
        obtain ⟨h5, arr, h6, h7⟩ := h4
        exact ⟨(hown g h5).1, arr, (hown g h5).2.trans h6, h7⟩
theorem InnR.mono (h : Env.Le C E E') {id : Nat} {t : TypeId} {k : Ki} {x : List k.den} {v : Value} (hown : ∀ g, E.own g = some (.inl id) → E'.own g = some (.inl id) ∧ E'.w.heap[g]? = E.w.heap[g]?) (hr : InnR C E id t k x v) : InnR C E' id t k x v := by
  rcases hr with h1 | ⟨g, c, h1, h2, h3, h4, h5, arr, h6, h7⟩
  · exact .inl h1
  · exact .inr ⟨g, c, h1, h2, h3, h4.mono h (hown g h5).2, (hown g h5).1, arr, (hown g h5).2.trans h6, h7⟩
theorem NestR.mono (h : Env.Le C E E') {id : Nat} {n : NestC} (hid : E.live id) (hown : ∀ g, E.own g = some (.inl id) → E'.own g = some (.inl id) ∧ E'.w.heap[g]? = E.w.heap[g]?) (hr : NestR C E id n) : NestR C E' id n := by
  rcases hr with ⟨h1, h2⟩ | ⟨g, c, arr, h1, h2, h3, h4, h5, h6, h7, h8⟩
  · exact .inl ⟨h1, (h.rv id hid).trans h2⟩
  · refine .inr ⟨g, c, arr, (h.rv id hid).trans h1, h2, h3, (hown g h4).1, (hown g h4).2.trans h5, h6, fun i x hx hh => ?_, h8⟩
    obtain ⟨v, k1, k2, k3⟩ := h7 i x hx hh
    exact ⟨v, k1, k2.mono h hown, k3⟩
theorem BoxR.mono (h : Env.Le C E E') {id : Nat} {b : BoxC} (hid : E.live id) (hown : ∀ g, E.own g = some (.inr id) → E'.own g = some (.inr id) ∧ E'.w.heap[g]? = E.w.heap[g]?) (hb : BoxR C E id b) : BoxR C E' id b := by
  obtain ⟨h1, arr, h2, h3, h4⟩ := hb
  refine ⟨?_, arr, ?_, h3.mono h, h4⟩
  · rw [h.bb id hid]; exact (hown _ h1).1
  · rw [h.bb id hid]; exact (hown _ h1).2.trans h2
end
/-- A world that has only more: nothing that is there has turned. -/
structure Wider (w w' : World) : Prop where
  os : w'.os = w.os
  tape : w'.tape = w.tape
  output : w'.output = w.output
  size : w.heap.size ≤ w'.heap.size
  block : ∀ b, b < w.heap.size → w'.heap[b]? = w.heap[b]?
theorem Wider.refl (w : World) : Wider w w := ⟨rfl, rfl, rfl, Nat.le_refl _, fun _ _ => rfl⟩
theorem Wider.drew (w : World) : Wider w { w with drawn := w.drawn + 1 } := ⟨rfl, rfl, rfl, Nat.le_refl _, fun _ _ => rfl⟩
theorem Wider.alloc (w : World) (o : Obj) : Wider w (w.alloc o) := ⟨rfl, rfl, rfl, by simp, fun k hk => heap_alloc_old w o k hk⟩
theorem Wider.trans {a b c : World} (h : Wider a b) (k : Wider b c) : Wider a c :=
  ⟨k.os.trans h.os, k.tape.trans h.tape, k.output.trans h.output, Nat.le_trans h.size k.size, fun i hi => (k.block i (Nat.lt_of_lt_of_le hi h.size)).trans (h.block i hi)⟩
theorem Keep.wider {C : Ctx} {w w' : World} (h : Keep C w) (hw : Wider w w') : Keep C w' :=
  ⟨hw.os.trans h.os, hw.tape.trans h.tape, hw.output.trans h.output, Nat.le_trans h.size hw.size, fun b hb hn => (hw.block b (Nat.lt_of_lt_of_le hb h.size)).trans (h.block b hb hn)⟩
/-- The machine's state with less said of it. -/
theorem getD_put (a : Act) (d : Tmp) (v : Value) (t : Nat) (hd : d < a.tmps.size) : (a.put (some d) v).tmps.getD t undef = if t = d then v else a.tmps.getD t undef := by
  simp only [Act.put, Array.getD_eq_getD_getElem?, Array.getElem?_setIfInBounds]
  by_cases h : t = d
  · subst h; simp [hd]
  · rw [if_neg (Ne.symm h), if_neg h]
def St.set (S : St) (d : Nat) (v : SL) : St := { S with sl := fun t => sel t d v (S.sl t) }
theorem RelE.set {C : Ctx} {S : St} {E : Env} {a : Act} (h : RelE C S E a) {d : Nat} (hd : d < C.n.hi) (hda : C.n.ar.contains d = false) {s : SL} {v : Value} (hs : SLR C E s v) : RelE C (S.set d s) E (a.put (some d) v) :=
  { h with
    slots := fun t => by
      rw [getD_put a d v t (by rw [h.size]; exact hd)]
      show SLR C E (sel t d s (S.sl t)) _
      rw [sel_eq]
      by_cases ht : t = d
      · rw [if_pos ht, if_pos ht]; exact hs
      · rw [if_neg ht, if_neg ht]; exact h.slots t
    size := by simp only [Act.put, Array.size_setIfInBounds]; exact h.size
    arg := fun t ht => by
      rw [getD_put a d v t (by rw [h.size]; exact hd), if_neg (fun e => by rw [e, hda] at ht; cases ht)]
      exact h.arg t ht
    defers := h.defers }
theorem RelE.wide {C : Ctx} {S : St} {E : Env} {a : Act} (h : RelE C S E a) {w' : World} (hw : Wider E.w w') : RelE C S { E with w := w' } a := by
  have hF : ∀ b, E.F C b → Env.F C { E with w := w' } b ∧ w'.heap[b]? = E.w.heap[b]? := fun b hb => ⟨⟨hb.1, hb.2.1, Nat.lt_of_lt_of_le hb.2.2 hw.size⟩, hw.block b hb.2.2⟩
  have hle : Env.Le C E { E with w := w' } := ⟨fun _ h => h, fun _ _ => rfl, fun _ _ => rfl, hF⟩
  exact {
    slots := fun t => (h.slots t).mono hle
    rows := fun id r hr => (h.rows id r hr).mono hle (h.idr _ _ hr) (fun g hg => ⟨hg, hw.block g (h.ownlt g _ hg).1⟩)
    boxes := fun id b hb => (h.boxes id b hb).mono hle (h.idb _ _ hb) (fun g hg => ⟨hg, hw.block g (h.ownlt g _ hg).1⟩)
    ownlt := fun b o ho => ⟨Nat.lt_of_lt_of_le (h.ownlt b o ho).1 hw.size, (h.ownlt b o ho).2⟩
    keep := h.keep.wider hw
    size := h.size
    arg := h.arg
    defers := h.defers
    idr := h.idr
    idb := h.idb
    glob := h.glob.mono hle
    nests := fun id n hn => (h.nests id n hn).mono hle (h.idn _ _ hn) (fun g hg => ⟨hg, hw.block g (h.ownlt g _ hg).1⟩)
    idn := h.idn }
/-- A row of the call's own is shared from now on. -/
def St.freeze (S : St) (i : Nat) : St := { S with rows := fun id => sel id i ((S.rows id).map fun r => { r with fz := true }) (S.rows id), nest := fun id => sel id i none (S.nest id) }
theorem nest_sel {S : St} {id i : Nat} {n : NestC} (h : sel id i none (S.nest id) = some n) : id ≠ i ∧ S.nest id = some n := by
  rw [sel_eq] at h
  split at h
  · cases h
  · rename_i hne; exact ⟨hne, h⟩
def Env.drop (E : Env) (i : Nat) : Env := { E with own := fun b => if E.own b = some (.inl i) then none else E.own b }
theorem RelE.freeze {C : Ctx} {S : St} {E : Env} {a : Act} (h : RelE C S E a) (i : Nat) : RelE C (S.freeze i) (E.drop i) a := by
  have hF : ∀ b, E.F C b → (E.drop i).F C b ∧ (E.drop i).w.heap[b]? = E.w.heap[b]? := fun b hb => ⟨⟨by show (if E.own b = some (.inl i) then none else E.own b) = none; rw [hb.1]; simp, hb.2.1, hb.2.2⟩, rfl⟩
  have hle : Env.Le C E (E.drop i) := ⟨fun _ h => h, fun _ _ => rfl, fun _ _ => rfl, hF⟩
  refine { h with
    slots := fun t => (h.slots t).mono hle
    rows := fun id r hr => ?_
    boxes := fun id b hb => (h.boxes id b hb).mono hle (h.idb _ _ hb) (fun g hg => ⟨?_, rfl⟩)
    ownlt := fun b o ho => ?_
    idr := fun id hid hq => ?_
    glob := h.glob.mono hle
    nests := fun id n hn => (h.nests id n (nest_sel hn).2).mono hle (h.idn _ _ (nest_sel hn).2) (fun g hg => ⟨by
      show (if E.own g = some (.inl i) then none else E.own g) = some (.inl id)
      rw [if_neg (by rw [hg]; simp [(nest_sel hn).1]), hg], rfl⟩)
    idn := fun id n hn => h.idn id n (nest_sel hn).2 }
  · by_cases hid : id = i
    · subst hid
      have hr' : (S.rows id).map (fun r => { r with fz := true }) = some r := by simpa [St.freeze, sel_eq] using hr
      obtain ⟨r0, hr0, rfl⟩ := Option.map_eq_some_iff.1 hr'
      have hR := h.rows id r0 hr0
      rcases hR with ⟨h1, h2⟩ | ⟨g, c, h1, h2, h2', h3, h4⟩
      · exact .inl ⟨h1, h2⟩
      · refine .inr ⟨g, c, h1, h2, h2', h3.mono hle rfl, ?_⟩
        rw [if_pos rfl]
        by_cases hf : r0.fz = true
        · rw [if_pos hf] at h4; exact (hF g h4).1
        · rw [if_neg hf] at h4
          exact ⟨by show (if E.own g = some (.inl id) then none else E.own g) = none; rw [if_pos h4.1], .inr (h.ownlt g _ h4.1).2, (h.ownlt g _ h4.1).1⟩
    · have hr' : S.rows id = some r := by simpa [St.freeze, sel_eq, hid] using hr
      refine (h.rows id r hr').mono hle (h.idr _ _ hr') (fun g hg => ⟨?_, rfl⟩)
      show (if E.own g = some (.inl i) then none else E.own g) = some (.inl id)
      rw [if_neg (by rw [hg]; simp [hid]), hg]
  · show (if E.own g = some (.inl i) then none else E.own g) = some (.inr id)
    rw [if_neg (by rw [hg]; simp), hg]
  · have ho' : E.own b = some o := by
      have : (if E.own b = some (.inl i) then none else E.own b) = some o := ho
      split at this
      · cases this
      · exact this
    exact h.ownlt b o ho'
  · by_cases hid' : id = i
    · subst hid'
      have hr' : (S.rows id).map (fun r => { r with fz := true }) = some hid := by simpa [St.freeze, sel_eq] using hq
      obtain ⟨r0, hr0, _⟩ := Option.map_eq_some_iff.1 hr'
      exact h.idr id r0 hr0
    · exact h.idr id hid (by simpa [St.freeze, sel_eq, hid'] using hq)
/-- A block of cells is made: a new row. -/
def St.newRow (S : St) (id : Nat) (r : RowC) : St := { S with rows := fun j => sel j id (some r) (S.rows j), nest := fun j => sel j id none (S.nest j) }
def Env.newRow (E : Env) (id : Nat) (v : Value) (o : Option Nat) (w' : World) : Env :=
  { own := fun b => if some b = o then some (.inl id) else E.own b, rv := fun j => if j = id then v else E.rv j, bb := E.bb, w := w', live := fun j => j = id ∨ E.live j }
theorem Env.le_new {C : Ctx} {E : Env} {id : Nat} (hid : ¬ E.live id) (v : Value) (o : Option Nat) {w' : World} (hw : Wider E.w w') (ho : ∀ b, o = some b → E.w.heap.size ≤ b) : Env.Le C E (E.newRow id v o w') where
  live := fun j hj => .inr hj
  rv := fun j hj => by show (if j = id then v else E.rv j) = _; exact if_neg (fun e : j = id => hid (e ▸ hj))
  bb := fun _ _ => rfl
  F := fun b hb => ⟨⟨by show (if some b = o then _ else E.own b) = none; rw [if_neg (fun e => by have := ho b e.symm; have := hb.2.2; omega)]; exact hb.1, hb.2.1, Nat.lt_of_lt_of_le hb.2.2 hw.size⟩, hw.block b hb.2.2⟩
theorem RelE.newRow {C : Ctx} {S : St} {E : Env} {a : Act} (h : RelE C S E a) {id : Nat} (hid : ¬ E.live id) {r : RowC} {v : Value} {o : Option Nat} {w' : World} (hw : Wider E.w w') (ho : ∀ b, o = some b → E.w.heap.size ≤ b ∧ b < w'.heap.size)
    (hr : RowR C (E.newRow id v o w') id r) : RelE C (S.newRow id r) (E.newRow id v o w') a := by
  have hle := Env.le_new (C := C) hid v o hw (fun b hb => (ho b hb).1)
  have hown : ∀ g x, E.own g = some x → (E.newRow id v o w').own g = some x ∧ (E.newRow id v o w').w.heap[g]? = E.w.heap[g]? := fun g x hg => by
    have hlt := (h.ownlt g _ hg).1
    exact ⟨by show (if some g = o then _ else E.own g) = _; rw [if_neg (fun e => by have := (ho g e.symm).1; omega), hg], hw.block g hlt⟩
  exact {
    slots := fun t => (h.slots t).mono hle
    rows := fun j r' hj => by
      by_cases hji : j = id
      · subst hji
        have : r = r' := by simpa [St.newRow, sel_eq] using hj
        subst this; exact hr
      · have hj' : S.rows j = some r' := by simpa [St.newRow, sel_eq, hji] using hj
        exact (h.rows j r' hj').mono hle (h.idr _ _ hj') (fun g hg => hown g _ hg)
    boxes := fun j b hb => (h.boxes j b hb).mono hle (h.idb _ _ hb) (fun g hg => hown g _ hg)
    ownlt := fun b x hx => by
      have hx' : (if some b = o then some (.inl id) else E.own b) = some x := hx
      by_cases hb : some b = o
      · have := ho b hb.symm
        exact ⟨this.2, .inl (Nat.le_trans h.keep.size this.1)⟩
      · rw [if_neg hb] at hx'
        exact ⟨Nat.lt_of_lt_of_le (h.ownlt b x hx').1 hw.size, (h.ownlt b x hx').2⟩
    keep := h.keep.wider hw
    size := h.size
    arg := h.arg
    defers := h.defers
    idr := fun j r' hj => by
      by_cases hji : j = id
      · exact .inl hji
      · exact .inr (h.idr j r' (by simpa [St.newRow, sel_eq, hji] using hj))
    idb := fun j b hb => .inr (h.idb j b hb)
    glob := h.glob.mono hle
    nests := fun j n hn => (h.nests j n (nest_sel hn).2).mono hle (h.idn _ _ (nest_sel hn).2) (fun g hg => hown g _ hg)
    idn := fun j n hn => .inr (h.idn j n (nest_sel hn).2) }
def St.newBox (S : St) (id : Nat) (b : BoxC) : St := { S with box := fun j => sel j id (some b) (S.box j) }
def Env.newBox (E : Env) (id g : Nat) (w' : World) : Env :=
  { own := fun b => if b = g then some (.inr id) else E.own b, rv := E.rv, bb := fun j => if j = id then g else E.bb j, w := w', live := fun j => j = id ∨ E.live j }
theorem Env.le_newBox {C : Ctx} {E : Env} {id g : Nat} (hid : ¬ E.live id) {w' : World} (hw : Wider E.w w') (hg : E.w.heap.size ≤ g) : Env.Le C E (E.newBox id g w') where
  live := fun j hj => .inr hj
  rv := fun _ _ => rfl
  bb := fun j hj => by show (if j = id then g else E.bb j) = _; exact if_neg (fun e : j = id => hid (e ▸ hj))
  F := fun b hb => ⟨⟨by show (if b = g then _ else E.own b) = none; rw [if_neg (fun e => by have := hb.2.2; omega)]; exact hb.1, hb.2.1, Nat.lt_of_lt_of_le hb.2.2 hw.size⟩, hw.block b hb.2.2⟩
theorem RelE.newBox {C : Ctx} {S : St} {E : Env} {a : Act} (h : RelE C S E a) {id g : Nat} (hid : ¬ E.live id) {bx : BoxC} {w' : World} (hw : Wider E.w w') (hg : E.w.heap.size ≤ g ∧ g < w'.heap.size)
    (hr : BoxR C (E.newBox id g w') id bx) : RelE C (S.newBox id bx) (E.newBox id g w') a := by
  have hle := Env.le_newBox (C := C) hid hw hg.1
  have hown : ∀ q x, E.own q = some x → (E.newBox id g w').own q = some x ∧ (E.newBox id g w').w.heap[q]? = E.w.heap[q]? := fun q x hq => by
    have hlt := (h.ownlt q _ hq).1
    exact ⟨by show (if q = g then _ else E.own q) = _; rw [if_neg (by omega), hq], hw.block q hlt⟩
  exact {
    slots := fun t => (h.slots t).mono hle
    rows := fun j r' hj => (h.rows j r' hj).mono hle (h.idr _ _ hj) (fun g hg => hown g _ hg)
    boxes := fun j b hb => by
      by_cases hji : j = id
      · subst hji
        have : bx = b := by simpa [St.newBox, sel_eq] using hb
        subst this; exact hr
      · have hj' : S.box j = some b := by simpa [St.newBox, sel_eq, hji] using hb
        exact (h.boxes j b hj').mono hle (h.idb _ _ hj') (fun g hg => hown g _ hg)
    ownlt := fun b x hx => by
      have hx' : (if b = g then some (.inr id) else E.own b) = some x := hx
      by_cases hb : b = g
      · subst hb; exact ⟨hg.2, .inl (Nat.le_trans h.keep.size hg.1)⟩
      · rw [if_neg hb] at hx'
        exact ⟨Nat.lt_of_lt_of_le (h.ownlt b x hx').1 hw.size, (h.ownlt b x hx').2⟩
    keep := h.keep.wider hw
    size := h.size
    arg := h.arg
    defers := h.defers
    idr := fun j r' hj => .inr (h.idr j r' hj)
    idb := fun j b hb => by
      by_cases hji : j = id
      · exact .inl hji
      · exact .inr (h.idb j b (by simpa [St.newBox, sel_eq, hji] using hb))
    glob := h.glob.mono hle
    nests := fun j n hn => (h.nests j n hn).mono hle (h.idn _ _ hn) (fun g hg => hown g _ hg)
    idn := fun j n hn => .inr (h.idn j n hn) }
end Go.Proofs.YtlioalaehkohlaaDoor.Vm
