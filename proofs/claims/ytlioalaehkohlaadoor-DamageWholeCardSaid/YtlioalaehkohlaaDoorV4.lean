/- What is known of the program's types, and single operations. Conditions: as each theorem states them. -/
import Derived.Test.YtlioalaehkohlaaDoorV3
import Derived.Laws.Cells
import Derived.Laws.Entries
namespace Go.Proofs.YtlioalaehkohlaaDoor.Vm
open Go Go.RowKit
set_option linter.unusedVariables false
set_option linter.unusedSimpArgs false
/-- a struct's fields are the kind's parts -/
def FieldsAt (T : Tys) (P : Program) : Ki → Nat → List Field → Prop
  | .unit, _, [] => True
  | .pair a b, o, f :: r => f.offset = o ∧ T.kind f.type = some a ∧ 0 < a.sz ∧ FieldsAt T P b (o + a.sz) r
  | _, _, _ => False
def KindAt (T : Tys) (P : Program) (t : TypeId) (k : Ki) : Prop :=
  (∃ i z, P.info? t = some i ∧ i.size = k.sz ∧ i.zero = some z ∧ (∀ w F, VR w F k k.zero z.cells.toList) ∧ 0 < i.bytes ∧ i.bytes ≤ 32768) ∧
  match k with
  | .int ik => P.underlying t = some (.int ik)
  | .bool => P.underlying t = some .bool
  | .str => P.underlying t = some .string
  | .list k' => ∃ e, P.underlying t = some (.slice e) ∧ T.kind e = some k' ∧ 0 < k'.sz ∧ ∀ e', look T.sl t = some e' → e' = e
  | .arr n k' => ∃ e, P.underlying t = some (.array n e) ∧ T.kind e = some k' ∧ 0 < k'.sz
  | .ref k' => ∃ e, P.underlying t = some (.pointer e) ∧ T.kind e = some k'
  | .nl _ => False
  | .unit => ∃ fs, P.underlying t = some (.struct fs) ∧ FieldsAt T P .unit 0 fs.toList
  | .pair a b => ∃ fs, P.underlying t = some (.struct fs) ∧ FieldsAt T P (.pair a b) 0 fs.toList
/-- may be compared -/
def cmpF (g : Ki → TypeId → Bool) : List Field → Ki → Bool
  | [], .unit => true
  | f :: r, .pair a b => f.name != "_" && (g a f.type && cmpF g r b)
  | _, _ => false
def cmpT (P : Program) : Nat → Ki → TypeId → Bool
  | 0, _, _ => false
  | n + 1, k, t => match k with
    | .list _ => false
    | .pair a b => !P.stoodInHeld t && (match P.underlying t with
      | some (.struct fs) => cmpF (cmpT P n) fs.toList (.pair a b)
      | _ => false)
    | .unit => false
    | .arr _ _ => false
    | .ref _ => false
    | .nl _ => false
    | _ => true
def zeroB : Ki → List Value → Bool
  | .int k, [.int k' n] => decide (k = k') && decide (n = 0)
  | .bool, [.bool b] => !b
  | .str, [.string s] => decide (s.data.toList = [])
  | .unit, [] => true
  | .list _, [.slice none 0 0] => true
  | .nl _, [.slice none 0 0] => true
  | .ref _, [.pointer none] => true
  | .pair a b, cs => zeroB a (cs.take a.sz) && zeroB b (cs.drop a.sz)
  | .arr n k, cs => zerosB (zeroB k) k.sz n cs
  | _, _ => false
where zerosB (z : List Value → Bool) (s : Nat) : Nat → List Value → Bool
  | 0, cs => match cs with | [] => true | _ => false
  | n + 1, cs => z (cs.take s) && zerosB z s n (cs.drop s)
/-- a nought's cells -/
def zcB : List Zc → List Value → Bool
  | [], cs => match cs with | [] => true | _ => false
  | .c v :: r, cs => match cs with
    | u :: us => sameV u v && (u.oneCell' && zcB r us)
    | [] => false
  | .a k :: r, cs => zeroB k (cs.take k.sz) && zcB r (cs.drop k.sz)
where sameV : Value → Value → Bool
  | .int k n, .int k' n' => decide (k = k') && decide (n = n')
  | .bool b, .bool c => b == c
  | .string s, .string s' => decide (s.data.toList = s'.data.toList)
  | .slice none 0 0, .slice none 0 0 => true
  | .pointer none, .pointer none => true
  | .nilFunc, .nilFunc => true
  | .map none, .map none => true
  | _, _ => false
structure TyOk (P : Program) (T : Tys) : Prop where
  kd : ∀ t k, T.kind t = some k → KindAt T P t k
  fo : ∀ s l, look T.fo s = some l → ∃ fs, P.underlying s = some (.struct fs) ∧ ∀ (f d : Nat), l[f]? = some d → ∃ fd, fs[f]? = some fd ∧ fd.offset = d ∧ ∃ i, P.info? fd.type = some i ∧ i.size ≠ 0
  zo : ∀ t cs, look T.zo t = some cs → ∃ i z, P.info? t = some i ∧ i.zero = some z ∧ zcB cs z.cells.toList = true
  cm : ∀ t, t ∈ T.cm → ∃ k, T.kind t = some k ∧ cmpT P 100 k t = true ∧ P.eqGuardType P.depth t = false
  ar : ∀ t m, look T.ar t = some m → P.underlying t = some (.array m.1 m.2)
  ps : ∀ t e, look T.ps t = some e → P.underlying t = some (.slice e) ∧ ∃ i z, P.info? e = some i ∧ i.size = 1 ∧ i.zero = some z
  mx : P.follows .mixedOrders = true
  pt : ∀ t, look T.pt t = some () → (∃ i, P.info? t = some i ∧ i.size = 1) ∧ ∃ d, P.underlying t = some d ∧ (∀ fs, d ≠ .struct fs) ∧ ∀ n e, d ≠ .array n e
theorem zeroB_ok {w : World} {F : Nat → Prop} : ∀ {k : Ki} {cs : List Value}, zeroB k cs = true → VR w F k k.zero cs := by
  intro k
  induction k with
  | pair a b iha ihb =>
    intro cs h
    simp only [zeroB, Bool.and_eq_true] at h
    exact ⟨cs.take a.sz, cs.drop a.sz, (List.take_append_drop _ _).symm, iha h.1, ihb h.2⟩
  | arr n k ih =>
    intro cs h
    simp only [zeroB] at h
    refine ⟨by show List.length (List.replicate n k.zero) = n; simp, ?_⟩
    show ERl _ (List.replicate n k.zero) cs
    induction n generalizing cs with
    | zero => cases cs with
      | nil => rfl
      | cons => simp [zeroB.zerosB] at h
    | succ n ihn =>
      simp only [zeroB.zerosB, Bool.and_eq_true] at h
      exact ⟨cs.take k.sz, cs.drop k.sz, (List.take_append_drop _ _).symm, ih h.1, ihn h.2⟩
  | ref k ih =>
    intro cs h
    unfold zeroB at h
    split at h <;> simp_all [VR, Ki.zero]
  | nl k ih =>
    intro cs h
    unfold zeroB at h
    split at h <;> simp_all [VR, Ki.zero]
  | int ik =>
    intro cs h
    unfold zeroB at h
    split at h <;> simp_all [VR, Ki.zero]
  | bool =>
    intro cs h
    unfold zeroB at h
    split at h <;> simp_all [VR, Ki.zero]
  | str =>
    intro cs h
    unfold zeroB at h
    split at h <;> simp_all [VR, Ki.zero]
    rename_i s
    cases s with
    | mk d => simp only at h; subst h; rfl
  | unit =>
    intro cs h
    unfold zeroB at h
    split at h <;> simp_all [VR, Ki.zero]
  | list k ih =>
    intro cs h
    unfold zeroB at h
    split at h <;> simp_all [VR, Ki.zero, maxLen]
    exact ⟨none, 0, ⟨rfl, rfl⟩, by omega⟩
def fieldsB (T : Tys) : Ki → Nat → List Field → Bool
  | .unit, _, [] => true
  | .pair a b, o, f :: r => decide (f.offset = o) && (decide (T.kind f.type = some a) && (decide (0 < a.sz) && fieldsB T b (o + a.sz) r))
  | _, _, _ => false
theorem fieldsB_ok {T : Tys} {P : Program} : ∀ {k : Ki} {o : Nat} {l : List Field}, fieldsB T k o l = true → FieldsAt T P k o l := by
  intro k
  induction k with
  | pair a b iha ihb =>
    intro o l h
    cases l with
    | nil => simp [fieldsB] at h
    | cons f r =>
      simp only [fieldsB, Bool.and_eq_true, decide_eq_true_eq] at h
      exact ⟨h.1, h.2.1, h.2.2.1, ihb h.2.2.2⟩
  | unit => intro o l h; cases l <;> simp_all [fieldsB, FieldsAt]
  | _ => intro o l h; simp [fieldsB] at h
def kindB (T : Tys) (P : Program) (t : TypeId) (k : Ki) : Bool :=
  (match P.info? t with
    | some i => decide (i.size = k.sz) && ((match i.zero with | some z => zeroB k z.cells.toList | none => false) && (decide (0 < i.bytes) && decide (i.bytes ≤ 32768)))
    | none => false) &&
  match k, P.underlying t with
  | .int ik, some (.int ik') => decide (ik = ik')
  | .bool, some .bool => true
  | .str, some .string => true
  | .list k', some (.slice e) => decide (T.kind e = some k') && (decide (0 < k'.sz) && (match look T.sl t with | some e' => decide (e' = e) | none => true))
  | .pair a b, some (.struct fs) => fieldsB T (.pair a b) 0 fs.toList
  | .unit, some (.struct fs) => fieldsB T .unit 0 fs.toList
  | .arr n k', some (.array m e) => decide (m = n) && (decide (T.kind e = some k') && decide (0 < k'.sz))
  | .ref k', some (.pointer e) => decide (T.kind e = some k')
  | _, _ => false
theorem kindB_ok {T : Tys} {P : Program} {t : TypeId} {k : Ki} (h : kindB T P t k = true) : KindAt T P t k := by
  unfold kindB at h
  rw [Bool.and_eq_true] at h
  obtain ⟨h1, h2⟩ := h
  refine ⟨?_, ?_⟩
  · cases hi : P.info? t with
    | none => rw [hi] at h1; simp at h1
    | some i =>
      rw [hi] at h1
      simp only [Bool.and_eq_true, decide_eq_true_eq] at h1
      cases hz : i.zero with
      | none => rw [hz] at h1; simp at h1
      | some z =>
        rw [hz] at h1
        exact ⟨i, z, rfl, h1.1, hz, fun w F => zeroB_ok h1.2.1, h1.2.2.1, h1.2.2.2⟩
  · cases k <;> cases hu : P.underlying t with
    | none => rw [hu] at h2; simp at h2
    | some d => rw [hu] at h2; cases d <;> simp at h2 <;> first
      | (subst h2; rfl)
      | rfl
      | exact ⟨_, rfl, fieldsB_ok h2⟩
      | (refine ⟨_, rfl, h2.1, h2.2.1, fun e' he => ?_⟩; have h3 := h2.2.2; rw [he] at h3; simpa using h3)
      | exact ⟨_, rfl, h2⟩
      | (obtain ⟨rfl, h3, h4⟩ := h2; exact ⟨_, rfl, h3, h4⟩)
def tyB (T : Tys) (P : Program) : Bool :=
  (P.follows .mixedOrders && (T.ps.all (fun e => match P.underlying e.1, P.info? e.2 with | some (.slice e'), some i => decide (e' = e.2) && (decide (i.size = 1) && i.zero.isSome) | _, _ => false) && (T.cm.all (fun t => match T.kind t with | some k => cmpT P 100 k t && !P.eqGuardType P.depth t | none => false) && T.ar.all (fun e => match P.underlying e.1 with
    | some (.array n t) => decide (n = e.2.1) && decide (t = e.2.2)
    | _ => false)))) && (T.kd.all (fun e => kindB T P e.1 e.2) &&
  (T.fo.all (fun e => match P.underlying e.1 with
    | some (.struct fs) => (List.range e.2.length).all fun f => match fs[f]? with
      | some fd => decide (some fd.offset = e.2[f]?) && (match P.info? fd.type with | some i => decide (i.size ≠ 0) | none => false)
      | none => false
    | _ => false) &&
  (T.zo.all (fun e => match P.info? e.1 with
    | some i => match i.zero with
      | some z => zcB e.2 z.cells.toList
      | none => false
    | none => false) &&
  T.pt.all (fun e => (match P.info? e.1 with | some i => decide (i.size = 1) | none => false) && match P.underlying e.1 with
    | some (.struct _) => false
    | some (.array _ _) => false
    | some _ => true
    | none => false))))
theorem sameV_eq {a b : Value} (h : zcB.sameV a b = true) : a = b := by
  unfold zcB.sameV at h
  split at h <;> simp_all
  exact ByteArray.ext h
theorem look_mem {β : Type _} : ∀ {l : List (Nat × β)} {t : Nat} {x : β}, look l t = some x → (t, x) ∈ l
  | (a, b) :: r, t, x, h => by
    unfold look at h
    cases hb : Nat.beq a t with
    | true => rw [hb] at h; simp at h; have := Nat.eq_of_beq_eq_true hb; subst this; subst h; simp
    | false => rw [hb] at h; exact List.mem_cons_of_mem _ (look_mem h)
theorem tyB_ok {T : Tys} {P : Program} (h : tyB T P = true) : TyOk P T := by
  unfold tyB at h
  simp only [Bool.and_eq_true, List.all_eq_true] at h
  obtain ⟨⟨hmx, hps, hcm, har⟩, h1, h2, h3, hpt⟩ := h
  refine ⟨fun t k hk => kindB_ok (h1 (t, k) (look_mem hk)), fun s l hl => ?_, fun t cs hc => ?_, fun t ht => ?_, fun t m hm => ?_, fun t e he => ?_, hmx, fun t hc => ?_⟩
  · have h4 := h2 (s, l) (look_mem hl)
    simp only at h4
    split at h4
    · rename_i fs hu
      refine ⟨fs, hu, fun f d hd => ?_⟩
      have hf : f < l.length := (List.getElem?_eq_some_iff.1 hd).1
      have h5 := List.all_eq_true.1 h4 f (List.mem_range.2 hf)
      split at h5
      · rename_i fd hfd
        simp only [Bool.and_eq_true, decide_eq_true_eq] at h5
        refine ⟨fd, hfd, Option.some.inj (h5.1.trans hd), ?_⟩
        have h6 := h5.2
        split at h6
        · rename_i i hi; exact ⟨i, hi, by simpa using h6⟩
        · simp at h6
      · simp at h5
    · simp at h4
  · have h4 := h3 (t, cs) (look_mem hc)
    simp only at h4
    split at h4
    · rename_i i hi
      split at h4
      · rename_i z hz
        exact ⟨i, z, hi, hz, h4⟩
      · simp at h4
    · simp at h4
  · have h4 := hcm t ht
    split at h4
    · rename_i k hk
      simp only [Bool.and_eq_true, Bool.not_eq_true'] at h4
      exact ⟨k, hk, h4.1, h4.2⟩
    · cases h4
  · have h4 := har (t, m) (look_mem hm)
    simp only at h4
    split at h4
    · rename_i n t' hu
      simp only [Bool.and_eq_true, decide_eq_true_eq] at h4
      rw [hu, h4.1, h4.2]
    · cases h4
  · have h4 := hps (t, e) (look_mem he)
    simp only at h4
    split at h4
    · rename_i e' i hu hi
      simp only [Bool.and_eq_true, decide_eq_true_eq] at h4
      obtain ⟨h5, h6, h7⟩ := h4
      subst h5
      obtain ⟨z, hz⟩ := Option.isSome_iff_exists.1 h7
      exact ⟨hu, i, z, hi, h6, hz⟩
    · cases h4
  · have h4 := hpt (t, ()) (look_mem hc)
    simp only [Bool.and_eq_true] at h4
    obtain ⟨h5, h6⟩ := h4
    refine ⟨?_, ?_⟩
    · split at h5
      · rename_i i hi; exact ⟨i, hi, by simpa using h5⟩
      · cases h5
    · split at h6
      · cases h6
      · cases h6
      · rename_i d hn1 hn2 hd
        exact ⟨d, hd, fun fs e => hn1 fs e, fun n e' e => hn2 n e' e⟩
      · cases h6
theorem one_size {T : Tys} {P : Program} (hT : TyOk P T) {t : TypeId} (h : T.one t = true) (w : World) : (sizeOf t).run P w = .ok 1 w ∧ (isAgg t).run P w = .ok false w := by
  unfold Tys.one at h
  split at h
  · rename_i k hk
    have hkd := hT.kd t k hk
    obtain ⟨⟨i, z, hi, hs, _⟩, hu⟩ := hkd
    cases k <;> simp [Ki.agg] at h <;> simp only at hu
    · exact ⟨by simp [sizeOf, typeInfo, hi, hs, Ki.sz], by simp [isAgg, underlying, hu]⟩
    · exact ⟨by simp [sizeOf, typeInfo, hi, hs, Ki.sz], by simp [isAgg, underlying, hu]⟩
    · exact ⟨by simp [sizeOf, typeInfo, hi, hs, Ki.sz], by simp [isAgg, underlying, hu]⟩
    · obtain ⟨e, hu, _⟩ := hu
      exact ⟨by simp [sizeOf, typeInfo, hi, hs, Ki.sz], by simp [isAgg, underlying, hu]⟩
    · obtain ⟨e, hu, _⟩ := hu
      exact ⟨by simp [sizeOf, typeInfo, hi, hs, Ki.sz], by simp [isAgg, underlying, hu]⟩
  · split at h
    · rename_i hp
      obtain ⟨⟨i, hi, hs⟩, d, hu, h1, h2⟩ := hT.pt t hp
      refine ⟨by simp [sizeOf, typeInfo, hi, hs], ?_⟩
      cases d <;> first
        | exact absurd rfl (h1 _)
        | exact absurd rfl (h2 _ _)
        | simp [isAgg, underlying, hu]
    · cases h
theorem add_at (g o j : Nat) : (⟨g, o, none⟩ : Addr).add j = ⟨g, o + j, none⟩ := by unfold Addr.add; split <;> simp_all
theorem KindAt.size {T : Tys} {P : Program} {t : TypeId} {k : Ki} (h : KindAt T P t k) (w : World) : (sizeOf t).run P w = .ok k.sz w := by
  obtain ⟨⟨i, z, hi, hs, _⟩, _⟩ := h
  simp [sizeOf, typeInfo, hi, hs]
theorem KindAt.agg {T : Tys} {P : Program} {t : TypeId} {k : Ki} (h : KindAt T P t k) (w : World) : (isAgg t).run P w = .ok k.agg w := by
  obtain ⟨_, h⟩ := h
  cases k <;> simp only at h
  · simp [isAgg, underlying, h, Ki.agg]
  · simp [isAgg, underlying, h, Ki.agg]
  · simp [isAgg, underlying, h, Ki.agg]
  · obtain ⟨fs, h, _⟩ := h; simp [isAgg, underlying, h, Ki.agg]
  · obtain ⟨e, h, _⟩ := h; simp [isAgg, underlying, h, Ki.agg]
  · obtain ⟨fs, h, _⟩ := h; simp [isAgg, underlying, h, Ki.agg]
  · obtain ⟨fs, h, _⟩ := h; simp [isAgg, underlying, h, Ki.agg]
  · obtain ⟨fs, h, _⟩ := h; simp [isAgg, underlying, h, Ki.agg]
theorem load_cells {T : Tys} {P : Program} {t : TypeId} {k : Ki} (h : KindAt T P t k) {w : World} {b o : Nat} {ds : List Value} (hl : ds.length = k.sz) (hc : CellsAt w b o ds) :
    (Instr.loadAt t (.pointer (some ⟨b, o, none⟩))).run P w = .ok (mkV k ds) w := by
  simp only [Instr.loadAt, Instr.sureAddr, loadVar, Sem.run_bind, Sem.run_pure, Result.andThen_ok, h.agg w, mkV]
  cases ha : k.agg with
  | true =>
    simp only [if_true, Sem.run_bind, h.size w, Result.andThen_ok]
    have := run_loadCells_list (P := P) w ⟨b, o, none⟩ ds (fun j v hj => by rw [add_at]; exact hc j v hj)
    rw [hl] at this
    rw [this]; rfl
  | false =>
    have h1 : ∃ v, ds = [v] := by
      cases k <;> simp [Ki.agg] at ha <;> simp [Ki.sz] at hl <;> exact List.length_eq_one_iff.1 hl
    obtain ⟨v, rfl⟩ := h1
    have := hc 0 v rfl
    simp only [Nat.add_zero] at this
    simp [this]
end Go.Proofs.YtlioalaehkohlaaDoor.Vm
