/- Each operation that the machine takes is as the program's. Conditions: as each theorem states them. -/
import Derived.Test.YtlioalaehkohlaaDoorVQ
import Derived.Lib.SliceRun
import Derived.Laws.Small
import Derived.Laws.StructEq
namespace Go.Proofs.YtlioalaehkohlaaDoor.Vm
open Go Go.RowKit
set_option linter.unusedVariables false
set_option linter.unusedSimpArgs false
/-- What is told stays: the shared blocks, the rows and boxes that aren't written. -/
structure Fr (C : Ctx) (E E' : Env) (tc : List (Nat ⊕ Nat)) (fz : List Nat) : Prop where
  le : Env.Le C E E'
  un : ∀ b i, E.own b = some i → i ∉ tc → (E'.own b = some i ∨ (E'.F C b ∧ ∃ j ∈ fz, i = .inl j)) ∧ E'.w.heap[b]? = E.w.heap[b]?
theorem Env.Le.trans {C : Ctx} {E E' E2 : Env} (h : Env.Le C E E') (k : Env.Le C E' E2) : Env.Le C E E2 := ⟨fun j hj => k.live j (h.live j hj), fun j hj => (k.rv j (h.live j hj)).trans (h.rv j hj), fun j hj => (k.bb j (h.live j hj)).trans (h.bb j hj), fun b hb => ⟨(k.F b (h.F b hb).1).1, (k.F b (h.F b hb).1).2.trans (h.F b hb).2⟩⟩
theorem Fr.trans {C : Ctx} {E E' E2 : Env} {tc : List (Nat ⊕ Nat)} {fz : List Nat} (h : Fr C E E' tc fz) (k : Fr C E' E2 tc fz) : Fr C E E2 tc fz := ⟨h.le.trans k.le, fun b i hb hi => by
  obtain ⟨h1, h2⟩ := h.un b i hb hi
  rcases h1 with h1 | h1
  · obtain ⟨k1, k2⟩ := k.un b i h1 hi
    exact ⟨k1, k2.trans h2⟩
  · obtain ⟨k1, k2⟩ := k.le.F b h1.1
    exact ⟨.inr ⟨k1, h1.2⟩, k2.trans h2⟩⟩
theorem Fr.wider {C : Ctx} {E E' : Env} {tc : List (Nat ⊕ Nat)} {fz fz' : List Nat} (h : Fr C E E' tc fz) (hs : ∀ j ∈ fz, j ∈ fz') : Fr C E E' tc fz' := ⟨h.le, fun b i hb hi => ⟨(h.un b i hb hi).1.imp (fun h => h) (fun h => ⟨h.1, h.2.imp fun j hj => ⟨hs j hj.1, hj.2⟩⟩), (h.un b i hb hi).2⟩⟩
theorem Fr.refl (C : Ctx) (E : Env) (tc : List (Nat ⊕ Nat)) {fz : List Nat} : Fr C E E tc fz := ⟨Env.Le.refl, fun b i hb _ => ⟨.inl hb, rfl⟩⟩
theorem Fr.new {C : Ctx} {S : St} {E : Env} {a : Act} (h : RelE C S E a) {id : Nat} (hid : ¬ E.live id) (v : Value) (o : Option Nat) {w' : World} (hw : Wider E.w w') (ho : ∀ b, o = some b → E.w.heap.size ≤ b) (tc : List (Nat ⊕ Nat)) {fz : List Nat} : Fr C E (E.newRow id v o w') tc fz := ⟨Env.le_new hid v o hw ho, fun b i hb _ => by
  have hlt := (h.ownlt b i hb).1
  exact ⟨.inl (by show (if some b = o then _ else E.own b) = _; rw [if_neg (fun e => by have := ho b e.symm; omega), hb]), hw.block b hlt⟩⟩
theorem Fr.newBox {C : Ctx} {S : St} {E : Env} {a : Act} (h : RelE C S E a) {id g : Nat} (hid : ¬ E.live id) {w' : World} (hw : Wider E.w w') (hg : E.w.heap.size ≤ g) (tc : List (Nat ⊕ Nat)) {fz : List Nat} : Fr C E (E.newBox id g w') tc fz := ⟨Env.le_newBox hid hw hg, fun b i hb _ => by
  have hlt := (h.ownlt b i hb).1
  exact ⟨.inl (by show (if b = g then _ else E.own b) = _; rw [if_neg (by omega), hb]), hw.block b hlt⟩⟩
theorem Fr.wide {C : Ctx} {S : St} {E : Env} {a : Act} (h : RelE C S E a) {w' : World} (hw : Wider E.w w') (tc : List (Nat ⊕ Nat)) {fz : List Nat} : Fr C E { E with w := w' } tc fz := ⟨⟨fun _ h => h, fun _ _ => rfl, fun _ _ => rfl, fun b hb => ⟨⟨hb.1, hb.2.1, Nat.lt_of_lt_of_le hb.2.2 hw.size⟩, hw.block b hb.2.2⟩⟩, fun b i hb _ => ⟨.inl hb, hw.block b (h.ownlt b i hb).1⟩⟩
def Env.drops (E : Env) (l : List Nat) : Env := { E with own := fun b => match E.own b with
  | some (.inl i) => if l.contains i then none else some (.inl i)
  | x => x }
def Rd.blk (C : Ctx) (E : Env) : Rd → Nat → Prop
  | .eff, _ => True
  | .pure, _ => False
  | .sh, b => E.F C b
  | .ob i, b => E.own b = some i
/-- What only reads answers the same wherever what it reads is the same. -/
def PureOk (C : Ctx) (E : Env) (a : Act) (o : Oper) (δ : Dl) : Prop := match δ.rd with
  | .eff => True
  | rd => ∃ v, SLR C (E.drops δ.fz) δ.v v ∧ ∀ w', (∀ b, rd.blk C E b → w'.heap[b]? = E.w.heap[b]?) → (execOp a.eval o).run C.P w' = .ok (.value v) w'
def NextOk (C : Ctx) (S : St) (E : Env) (q : Nat) (δ : Dl) (a : Act) (dst : Option Tmp) : Act → World → Prop := fun a' w' =>
  ∃ v E', a' = a.put dst v ∧ E'.w = w' ∧ RelE C (S.app q δ) E' a ∧ SLR C E' δ.v v ∧ (∀ id, E'.live id → E.live id ∨ (q ≤ id ∧ id < q + 8)) ∧ Fr C E E' δ.tc δ.fz
def OpOk (C : Ctx) (S : St) (E : Env) (q : Nat) (a : Act) (o : Oper) (δ : Dl) : Prop := (∀ Q, o.wp C.P a E.w (NextOk C S E q δ a o.dst) Q) ∧ PureOk C E a o δ
section
variable {C : Ctx} {S : St} {E : Env} {q : Nat} {a : Act} {o : Oper} {R : Type}
theorem ok_run' {v : Value} {w' : World} {δ : Dl} (hr : (execOp a.eval o).run C.P E.w = .ok (.value v) w')
    (hs : ∃ E' : Env, E'.w = w' ∧ RelE C (S.app q δ) E' a ∧ SLR C E' δ.v v ∧ (∀ id, E'.live id → E.live id ∨ (q ≤ id ∧ id < q + 8)) ∧ Fr C E E' δ.tc δ.fz) : ∀ Q, o.wp C.P a E.w (NextOk C S E q δ a o.dst) Q := by
  intro Q
  unfold Oper.wp
  rw [hr, Oper.upon_value]
  obtain ⟨E', h1, h2, h3, h4⟩ := hs
  exact ⟨v, E', rfl, h1, h2, h3, h4⟩
theorem ok_run {v : Value} {w' : World} {δ : Dl} (hr : (execOp a.eval o).run C.P E.w = .ok (.value v) w')
    (hs : ∃ E' : Env, E'.w = w' ∧ RelE C (S.app q δ) E' a ∧ SLR C E' δ.v v ∧ (∀ id, E'.live id → E.live id ∨ (q ≤ id ∧ id < q + 8)) ∧ Fr C E E' δ.tc δ.fz) (he : δ.rd = .eff := by rfl) : OpOk C S E q a o δ :=
  ⟨ok_run' hr hs, by unfold PureOk; rw [he]; trivial⟩
theorem drops_nil : E.drops [] = E := by
  cases E
  simp only [Env.drops, Env.mk.injEq, and_true, true_and]
  funext b
  split <;> simp_all
theorem drops_cons (i : Nat) (l : List Nat) : (E.drop i).drops l = E.drops (i :: l) := by
  simp only [Env.drops, Env.drop, Env.mk.injEq, and_true, true_and]
  funext b
  cases hb : E.own b with
  | none => simp
  | some x =>
    cases x with
    | inr j => simp
    | inl j =>
      by_cases hj : j = i
      · subst hj; simp
      · have : (j == i) = false := by simpa using hj
        simp [hj, this]
theorem drops_le {l m : List Nat} (hlm : ∀ i ∈ l, i ∈ m) : Env.Le C (E.drops l) (E.drops m) where
  live := fun _ h => h
  rv := fun _ _ => rfl
  bb := fun _ _ => rfl
  F := fun b hb => ⟨⟨by
    have h1 : (match E.own b with | some (.inl i) => if l.contains i then none else some (.inl i) | x => x) = none := hb.1
    show (match E.own b with | some (.inl i) => if m.contains i then none else some (.inl i) | x => x) = none
    split at h1
    · rename_i i hi
      split at h1
      · rename_i hc
        simp only [List.contains_iff_mem] at hc
        simp [hlm i hc]
      · cases h1
    · exact h1
    , hb.2⟩, rfl⟩
theorem le_drops (l : List Nat) : Env.Le C E (E.drops l) := by
  have := drops_le (C := C) (E := E) (l := []) (m := l) (by simp)
  rwa [drops_nil] at this
theorem RelE.frs : ∀ {l : List Nat} {S : St} {E : Env}, RelE C S E a → RelE C (S.frs l) (E.drops l) a
  | [], S, E, h => by rw [drops_nil]; exact h
  | i :: r, S, E, h => by rw [← drops_cons]; exact RelE.frs (h.freeze i)
theorem Fr.drops (h : RelE C S E a) (l : List Nat) (tc : List (Nat ⊕ Nat)) : Fr C E (E.drops l) tc l := ⟨le_drops l, fun b i hb _ => by
  refine ⟨?_, rfl⟩
  cases i with
  | inr j => exact .inl (by show (match E.own b with | some (.inl i) => if l.contains i then none else some (Sum.inl i) | x => x) = _; rw [hb])
  | inl j =>
    by_cases hc : l.contains j = true
    · refine .inr ⟨⟨by show (match E.own b with | some (.inl i) => if l.contains i then none else some (Sum.inl i) | x => x) = _; rw [hb]; simp only [hc, if_true], .inr (h.ownlt b _ hb).2, (h.ownlt b _ hb).1⟩, j, List.contains_iff_mem.1 hc, rfl⟩
    · exact .inl (by show (match E.own b with | some (.inl i) => if l.contains i then none else some (Sum.inl i) | x => x) = _; rw [hb]; simp only [hc, if_false, Bool.false_eq_true])⟩
theorem ok_read (h : RelE C S E a) {v : Value} {s : SL} {fz : List Nat} (rd : Rd) (hs : SLR C (E.drops fz) s v) (hr : ∀ w', (∀ b, rd.blk C E b → w'.heap[b]? = E.w.heap[b]?) → (execOp a.eval o).run C.P w' = .ok (.value v) w') : OpOk C S E q a o { v := s, fz := fz, rd := rd } :=
  ⟨ok_run' (hr E.w fun _ _ => rfl) ⟨E.drops fz, rfl, h.frs, hs, fun id hid => .inl hid, Fr.drops h fz _⟩, by
    unfold PureOk
    cases rd with
    | eff => trivial
    | _ => exact ⟨v, hs, hr⟩⟩
theorem ok_eff (h : RelE C S E a) {v : Value} {s : SL} (hr : (execOp a.eval o).run C.P E.w = .ok (.value v) E.w) (hs : SLR C E s v) : OpOk C S E q a o { v := s } :=
  ok_run hr ⟨E, rfl, h, hs, fun id hid => .inl hid, Fr.refl C E _⟩
theorem ok_pure (h : RelE C S E a) {v : Value} {s : SL} (hr : ∀ w, (execOp a.eval o).run C.P w = .ok (.value v) w) (hs : SLR C E s v) : OpOk C S E q a o { v := s, rd := .pure } :=
  ok_read h .pure (by rw [drops_nil]; exact hs) (fun w _ => hr w)
theorem ok_frz (h : RelE C S E a) {v : Value} {s : SL} {fz : List Nat} (hr : ∀ w, (execOp a.eval o).run C.P w = .ok (.value v) w) (hs : SLR C (E.drops fz) s v) : OpOk C S E q a o { v := s, fz := fz, rd := .pure } :=
  ok_read h .pure hs (fun w _ => hr w)
theorem eval_ok (h : RelE C S E a) : ∀ x : Operand, SLR C E (opv S.sl x) (a.eval x)
  | .tmp t => h.slots t
  | .global g => rfl
  | .func f => ⟨[], rfl, rfl, fun i s v hs => by simp at hs⟩
  | .const v => by
    show SVR C E (constV v) v
    unfold constV
    split
    · exact VRv.of_int _ _ _ _
    · exact VRv.of_bool _ _ _
    · exact VRv.of_str _ _ _
    · rfl
    · trivial
theorem eval_one (h : RelE C S E a) {x : Operand} {s : SV} (hx : opv S.sl x = .one s) : SVR C E s (a.eval x) := by
  have := eval_ok h x
  rwa [hx] at this
theorem intK_ok {op : BinOp} {k : IntKind} {x y : Int} {K : SV → Option R} {r : R} (hK : intK op k x y K = some r) (C : Ctx) (E : Env) (P : Program) :
    ∃ s v, K s = some r ∧ SVR C E s v ∧ ∀ x' y' t w, ((do eqGuard op t x' y' (.int k x) (.int k y); binOp op t (.int k x) (.int k y)) : Sem Value).run P w = .ok v w := by
  cases op <;> simp only [intK, wr_eq] at hK
  case add => exact ⟨_, _, hK, VRv.of_int _ _ _ _, fun x' y' t w => by simp [eqGuard, binOp, Op.intArith]⟩
  case sub => exact ⟨_, _, hK, VRv.of_int _ _ _ _, fun x' y' t w => by simp [eqGuard, binOp, Op.intArith]⟩
  case mul => exact ⟨_, _, hK, VRv.of_int _ _ _ _, fun x' y' t w => by simp [eqGuard, binOp, Op.intArith]⟩
  case quo =>
    split at hK
    · cases hK
    · rename_i hy
      exact ⟨_, _, hK, VRv.of_int _ _ _ _, fun x' y' t w => by simp [eqGuard, binOp, Op.intDiv, hy]⟩
  case rem =>
    split at hK
    · cases hK
    · rename_i hy
      exact ⟨_, _, hK, VRv.of_int _ _ _ _, fun x' y' t w => by simp [eqGuard, binOp, Op.intDiv, hy]⟩
  case and => exact ⟨_, _, hK, VRv.of_int _ _ _ _, fun x' y' t w => by simp [eqGuard, binOp, Op.intBits, band, bits2, wr_eq]⟩
  case or => exact ⟨_, _, hK, VRv.of_int _ _ _ _, fun x' y' t w => by simp [eqGuard, binOp, Op.intBits, bor, bits2, wr_eq]⟩
  case xor => exact ⟨_, _, hK, VRv.of_int _ _ _ _, fun x' y' t w => by simp [eqGuard, binOp, Op.intBits, bxor, bits2, wr_eq]⟩
  case eql => exact ⟨_, _, hK, VRv.of_bool _ _ _, fun x' y' t w => by simp [eqGuard, binOp, Op.intCmp]⟩
  case neq => exact ⟨_, _, hK, VRv.of_bool _ _ _, fun x' y' t w => by simp [eqGuard, binOp, Op.intCmp]⟩
  case lss => exact ⟨_, _, hK, VRv.of_bool _ _ _, fun x' y' t w => by simp [eqGuard, binOp, Op.intCmp]⟩
  case leq => exact ⟨_, _, hK, VRv.of_bool _ _ _, fun x' y' t w => by simp [eqGuard, binOp, Op.intCmp]⟩
  case gtr => exact ⟨_, _, hK, VRv.of_bool _ _ _, fun x' y' t w => by simp [eqGuard, binOp, Op.intCmp]⟩
  case geq => exact ⟨_, _, hK, VRv.of_bool _ _ _, fun x' y' t w => by simp [eqGuard, binOp, Op.intCmp]⟩
  all_goals cases hK
theorem binK_ok {T : Tys} {P : Program} (hT : TyOk P T) {t : TypeId} {op : BinOp} {s1 s2 : SV} {K : SV → Option R} {r : R} (hK : binK T t op s1 s2 K = some r) {v1 v2 : Value} (h1 : SVR C E s1 v1) (h2 : SVR C E s2 v2) :
    ∃ s v, K s = some r ∧ SVR C E s v ∧ ∀ x' y' w, ((do eqGuard op t x' y' v1 v2; binOp op t v1 v2) : Sem Value).run P w = .ok v w := by
  unfold binK at hK
  split at hK
  · rename_i k x k' y
    obtain rfl := VRv.int h1
    obtain rfl := VRv.int h2
    split at hK
    · split at hK
      · cases hK
      · rename_i hy
        exact ⟨_, _, hK, VRv.of_int _ _ _ _, fun x' y' w => by simp [eqGuard, binOp, Op.shift, hy, shlV, wr_eq]⟩
    · split at hK
      · cases hK
      · rename_i hy
        exact ⟨_, _, hK, VRv.of_int _ _ _ _, fun x' y' w => by simp [eqGuard, binOp, Op.shift, hy, shrV]⟩
    · split at hK
      · rename_i hkk
        have hkk := of_decide_eq_true hkk; subst hkk
        obtain ⟨s, v, g1, g2, g3⟩ := intK_ok hK C E P
        exact ⟨s, v, g1, g2, fun x' y' w => g3 x' y' t w⟩
      · cases hK
  · rename_i x y
    obtain rfl := VRv.bool h1
    obtain rfl := VRv.bool h2
    split at hK
    · rename_i hk
      have hu := (hT.kd t _ hk).2
      simp only at hu
      split at hK
      · exact ⟨_, _, hK, VRv.of_bool _ _ _, fun x' y' w => by simp [eqGuard, binOp, run_equal_bool w t x y hu]⟩
      · exact ⟨_, _, hK, VRv.of_bool _ _ _, fun x' y' w => by simp [eqGuard, binOp, run_equal_bool w t x y hu]⟩
      · cases hK
    · cases hK
  · rename_i ke x
    have e2 : v2 = .slice none 0 0 := h2
    subst e2
    have h1' : VR E.w (E.F C) (.nl ke) x [v1] := by simpa [SVR, VRv, Ki.agg] using h1
    rcases h1' with ⟨hx, e1⟩ | ⟨xs, ad, c, hx, e1, _⟩
    · have hx : x = none := hx
      subst hx
      cases e1
      split at hK
      · rename_i k hk
        obtain ⟨e, hu, _⟩ := (hT.kd t _ hk).2
        exact ⟨_, _, hK, VRv.of_bool _ _ _, fun x' y' w => by simp [eqGuard, binOp, Op.equal, Op.maxDepth, Lib.run_equalIn_slice_nil w 9999 t e none 0 0 0 0 hu]⟩
      · rename_i k hk
        obtain ⟨e, hu, _⟩ := (hT.kd t _ hk).2
        exact ⟨_, _, hK, VRv.of_bool _ _ _, fun x' y' w => by simp [eqGuard, binOp, Op.equal, Op.maxDepth, Lib.run_equalIn_slice_nil w 9999 t e none 0 0 0 0 hu]⟩
      · cases hK
    · have hx : x = some xs := hx
      subst hx
      cases e1
      split at hK
      · rename_i k hk
        obtain ⟨e, hu, _⟩ := (hT.kd t _ hk).2
        exact ⟨_, _, hK, VRv.of_bool _ _ _, fun x' y' w => by simp [eqGuard, binOp, Op.equal, Op.maxDepth, Lib.run_equalIn_slice_nil w 9999 t e (some ad) _ c 0 0 hu]⟩
      · rename_i k hk
        obtain ⟨e, hu, _⟩ := (hT.kd t _ hk).2
        exact ⟨_, _, hK, VRv.of_bool _ _ _, fun x' y' w => by simp [eqGuard, binOp, Op.equal, Op.maxDepth, Lib.run_equalIn_slice_nil w 9999 t e (some ad) _ c 0 0 hu]⟩
      · cases hK
  · have e1 : v1 = .slice none 0 0 := h1
    have e2 : v2 = .slice none 0 0 := h2
    subst e1; subst e2
    split at hK
    · rename_i k hk
      obtain ⟨e, hu, _⟩ := (hT.kd t _ hk).2
      exact ⟨_, _, hK, VRv.of_bool _ _ _, fun x' y' w => by simp [eqGuard, binOp, Op.equal, Op.maxDepth, Lib.run_equalIn_slice_nil w 9999 t e none 0 0 0 0 hu]⟩
    · rename_i k hk
      obtain ⟨e, hu, _⟩ := (hT.kd t _ hk).2
      exact ⟨_, _, hK, VRv.of_bool _ _ _, fun x' y' w => by simp [eqGuard, binOp, Op.equal, Op.maxDepth, Lib.run_equalIn_slice_nil w 9999 t e none 0 0 0 0 hu]⟩
    · cases hK
  · obtain ⟨_, ad, n, c, e1⟩ := h1
    have e2 : v2 = .slice none 0 0 := h2
    subst e1; subst e2
    split at hK
    · rename_i k hk
      obtain ⟨e, hu, _⟩ := (hT.kd t _ hk).2
      exact ⟨_, _, hK, VRv.of_bool _ _ _, fun x' y' w => by simp [eqGuard, binOp, Op.equal, Op.maxDepth, Lib.run_equalIn_slice_nil w 9999 t e (some ad) n c 0 0 hu]⟩
    · rename_i k hk
      obtain ⟨e, hu, _⟩ := (hT.kd t _ hk).2
      exact ⟨_, _, hK, VRv.of_bool _ _ _, fun x' y' w => by simp [eqGuard, binOp, Op.equal, Op.maxDepth, Lib.run_equalIn_slice_nil w 9999 t e (some ad) n c 0 0 hu]⟩
    · cases hK
  · rename_i x y
    obtain rfl := VRv.str h1
    obtain rfl := VRv.str h2
    split at hK
    · exact ⟨_, _, hK, VRv.of_bool _ _ _, fun x' y' w => by simp [eqGuard, binOp, Op.stringOp]⟩
    · exact ⟨_, _, hK, VRv.of_bool _ _ _, fun x' y' w => by simp [eqGuard, binOp, Op.stringOp]⟩
    · cases hK
  · rename_i ka kb x k' y
    split at hK
    · rename_i hkk
      subst hkk
      have key : T.cmB t (.pair ka kb) = true → ∀ w, (Op.equalIn 10000 t v1 v2).run P w = .ok (Ki.eqB (.pair ka kb) x y) w ∧ P.eqGuardType P.depth t = false := by
        intro hc w
        unfold Tys.cmB at hc
        split at hc
        · rename_i k' hm hk
          have hkk : k' = .pair ka kb := by simpa using hc
          subst hkk
          have hm' : t ∈ T.cm := by
            clear hk hc h1 h2 hK
            revert hm
            generalize T.cm = l
            intro hm
            induction l with
            | nil => cases hm
            | cons e l ih =>
              simp only [memN, Bool.or_eq_true] at hm
              rcases hm with hm | hm
              · rw [Nat.eq_of_beq_eq_true hm]; exact List.mem_cons_self ..
              · exact List.mem_cons_of_mem _ (ih hm)
          obtain ⟨k2, e1, e2, e3⟩ := hT.cm t hm'
          rw [hk] at e1
          cases e1
          exact ⟨eq_ok hT 100 10000 (by omega) (.pair ka kb) t x y v1 v2 e2 hk h1 h2 w, e3⟩
        · cases hc
      have hv1 : ∃ cs : List Value, v1 = .agg cs.toArray := by obtain ⟨cs, h, _⟩ : ∃ cs : List Value, v1 = .agg cs.toArray ∧ VR E.w (E.F C) (.pair ka kb) x cs := h1; exact ⟨cs, h⟩
      have hv2 : ∃ cs : List Value, v2 = .agg cs.toArray := by obtain ⟨cs, h, _⟩ : ∃ cs : List Value, v2 = .agg cs.toArray ∧ VR E.w (E.F C) (.pair ka kb) y cs := h2; exact ⟨cs, h⟩
      obtain ⟨c1, rfl⟩ := hv1
      obtain ⟨c2, rfl⟩ := hv2
      split at hK
      · rename_i hc
        exact ⟨_, _, hK, VRv.of_bool _ _ _, fun x' y' w => by
          obtain ⟨g1, g2⟩ := key hc w
          simp only [Sem.run_bind, run_eqGuard_agg w .eql t x' y' _ _ g2, Result.andThen_ok, run_eql_struct, g1]
          rfl⟩
      · rename_i hc
        exact ⟨_, _, hK, VRv.of_bool _ _ _, fun x' y' w => by
          obtain ⟨g1, g2⟩ := key hc w
          simp only [Sem.run_bind, run_eqGuard_agg w .neq t x' y' _ _ g2, Result.andThen_ok, run_neq_struct, g1]
          rfl⟩
      · cases hK
    · cases hK
  · cases hK
theorem unK_ok {op : UnOp} {s1 : SV} {K : SV → Option R} {r : R} (hK : unK op s1 K = some r) {v1 : Value} (P : Program) (h1 : SVR C E s1 v1) :
    ∃ s v, K s = some r ∧ SVR C E s v ∧ ∀ w, (Op.unary op v1).run P w = .ok v w := by
  unfold unK at hK
  split at hK
  · obtain rfl := VRv.bool h1
    exact ⟨_, _, hK, VRv.of_bool _ _ _, fun w => by simp [Op.unary]⟩
  · obtain rfl := VRv.int h1
    exact ⟨_, _, hK, VRv.of_int _ _ _ _, fun w => by simp [Op.unary, Op.intArith, wr_eq]⟩
  · rename_i k x
    obtain rfl := VRv.int h1
    exact ⟨_, _, hK, VRv.of_int _ _ _ _, fun w => by simp [Op.unary, Op.intBits, bnot, bxor, bits2, wr_eq]⟩
  · cases hK
end
end Go.Proofs.YtlioalaehkohlaaDoor.Vm
