/- What is read where code meets, and handed in calls. Conditions: as each theorem states them. -/
import Derived.Test.YtlioalaehkohlaaDoorV13
namespace Go.Proofs.YtlioalaehkohlaaDoor.Vm
open Go Go.RowKit
set_option linter.unusedVariables false
set_option linter.unusedSimpArgs false
theorem sameI_iff {a b : Nat ⊕ Nat} : sameI a b = true ↔ a = b := by
  cases a <;> cases b <;> simp [sameI]
theorem hasI_mem {i : Nat ⊕ Nat} : ∀ {l : List (Option (Nat ⊕ Nat))}, hasI i l = false → ¬ some i ∈ l
  | [], _, hm => by simp at hm
  | none :: r, h, hm => hasI_mem (l := r) h (by simpa using hm)
  | some y :: r, h, hm => by
    simp only [hasI, Bool.or_eq_false_iff] at h
    rcases List.mem_cons.1 hm with hm | hm
    · cases hm
      have := sameI_iff.2 (rfl : i = i)
      rw [h.1] at this
      cases this
    · exact hasI_mem h.2 hm
def pos2 : List (Option (Nat ⊕ Nat)) → Nat ⊕ Nat → Option Nat
  | [], _ => none
  | none :: r, i => (pos2 r i).map (· + 1)
  | some y :: r, i => match sameI y i with
    | true => some 0
    | false => (pos2 r i).map (· + 1)
theorem pos2_at : ∀ {ids : List (Option (Nat ⊕ Nat))} {fz : List Nat}, okIds fz ids = true → (∀ i, some (Sum.inl i) ∈ ids → fz.contains i = false) ∧ ∀ (j : Nat) (i : Nat ⊕ Nat), ids[j]? = some (some i) → pos2 ids i = some j
  | [], _, _ => ⟨fun i hi => by simp at hi, fun j i hj => by simp at hj⟩
  | x :: r, fz, h => by
    have h0 : okIds fz r = true ∧ (∀ i, x = some (.inl i) → fz.contains i = false) ∧ ∀ i, x = some i → ¬ some i ∈ r := by
      cases x with
      | none => exact ⟨h, fun i hi => (by cases hi), fun i hi => (by cases hi)⟩
      | some y =>
        cases y with
        | inl i =>
          simp only [okIds, Bool.and_eq_true, Bool.not_eq_true'] at h
          exact ⟨h.2.2, fun j hj => (by cases hj; exact h.1), fun j hj => (by cases hj; exact hasI_mem h.2.1)⟩
        | inr i =>
          simp only [okIds, Bool.and_eq_true, Bool.not_eq_true'] at h
          exact ⟨h.2, fun j hj => (by cases hj), fun j hj => (by cases hj; exact hasI_mem h.1)⟩
    obtain ⟨h1, h2, h3⟩ := h0
    obtain ⟨g1, g2⟩ := pos2_at h1
    refine ⟨fun i hi => ?_, fun j i hj => ?_⟩
    · rcases List.mem_cons.1 hi with hi | hi
      · exact h2 i hi.symm
      · exact g1 i hi
    · cases j with
      | zero =>
        have hx : x = some i := by simpa using hj
        subst hx
        show (match sameI i i with | true => some 0 | false => _) = _
        rw [sameI_iff.2 rfl]
      | succ j =>
        have hj' : r[j]? = some (some i) := by simpa using hj
        have hne : ¬ x = some i := fun e => by
          have := List.mem_of_getElem? hj'
          exact h3 i e this
        cases x with
        | none =>
          show (pos2 r i).map (· + 1) = _
          rw [g2 j i hj']
          rfl
        | some y =>
          show (match sameI y i with | true => some 0 | false => (pos2 r i).map (· + 1)) = _
          cases hs : sameI y i with
          | true => exact absurd (congrArg some (sameI_iff.1 hs)) hne
          | false => simp only [g2 j i hj']; rfl
theorem idAt_eq : ∀ (l : List (Option (Nat ⊕ Nat))) (i : Nat), idAt l i = l[i]?
  | [], i => by simp [idAt]
  | o :: r, 0 => rfl
  | o :: r, i + 1 => by show idAt r i = _; rw [idAt_eq r i]; simp
theorem obAt_eq : ∀ (l : List Ob) (i : Nat), obAt l i = l[i]?
  | [], i => by simp [obAt]
  | o :: r, 0 => rfl
  | o :: r, i + 1 => by show obAt r i = _; rw [obAt_eq r i]; simp
/-- The same values, numbered anew. -/
structure Can (C C' : Ctx) (E E' : Env) (fz : List Nat) (ids : List (Option (Nat ⊕ Nat))) : Prop where
  w : E'.w = E.w
  F : ∀ b, (E.drops fz).F C b → E'.F C' b
  row : ∀ (j i : Nat), ids[j]? = some (some (.inl i)) → fz.contains i = false ∧ E'.rv j = E.rv i ∧ E'.live j ∧ ∀ g, E.own g = some (.inl i) → E'.own g = some (.inl j)
  nil : ∀ (j : Nat), ids[j]? = some none → E'.rv j = .slice none 0 0 ∧ E'.live j
  box : ∀ (j i : Nat), ids[j]? = some (some (.inr i)) → E'.bb j = E.bb i ∧ E'.live j ∧ (E.own (E.bb i) = some (.inr i) → E'.own (E.bb i) = some (.inr j))
def ObE (C : Ctx) (E : Env) (j : Nat) : Ob → Prop
  | .row r => RowR C E j r ∧ E.live j
  | .box b => BoxR C E j b ∧ E.live j
  | .nest n => NestR C E j n ∧ E.live j
def ObsE (C : Ctx) (E : Env) (m : Nat) (l : List Ob) : Prop := ∀ j o, l[j]? = some o → ObE C E (m + j) o
theorem ObsE.nil (C : Ctx) (E : Env) (m : Nat) : ObsE C E m [] := fun j o h => by simp at h
theorem ObsE.cons {C : Ctx} {E : Env} {m : Nat} {o : Ob} {l : List Ob} (h : ObE C E m o) (hl : ObsE C E (m + 1) l) : ObsE C E m (o :: l) := fun j o' h' => by
  cases j with
  | zero => simp at h'; subst h'; exact h
  | succ j => have := hl j o' (by simpa using h'); rwa [show m + 1 + j = m + (j + 1) by omega] at this
theorem ObsE.append {C : Ctx} {E : Env} {m : Nat} {l l' : List Ob} (h : ObsE C E m l) (hl : ObsE C E (m + l.length) l') : ObsE C E m (l ++ l') := fun j o h' => by
  by_cases hj : j < l.length
  · rw [List.getElem?_append_left hj] at h'; exact h j o h'
  · rw [List.getElem?_append_right (by omega)] at h'
    have := hl (j - l.length) o h'
    rwa [show m + l.length + (j - l.length) = m + j by omega] at this
def At (ids : List (Option (Nat ⊕ Nat))) (m : Nat) (l : List (Option (Nat ⊕ Nat))) : Prop := ∀ j, j < l.length → ids[m + j]? = l[j]?
theorem At.head {ids : List (Option (Nat ⊕ Nat))} {m : Nat} {x : Option (Nat ⊕ Nat)} {l : List (Option (Nat ⊕ Nat))} (h : At ids m (x :: l)) : ids[m]? = some x ∧ At ids (m + 1) l := ⟨by simpa using h 0 (by simp), fun j hj => by
  have := h (j + 1) (by simpa using hj)
  rw [show m + 1 + j = m + (j + 1) by omega]
  simpa using this⟩
theorem At.app {ids : List (Option (Nat ⊕ Nat))} {m : Nat} {l l' : List (Option (Nat ⊕ Nat))} (h : At ids m (l ++ l')) : At ids m l ∧ At ids (m + l.length) l' := ⟨fun j hj => by
  have := h j (by rw [List.length_append]; omega)
  rwa [List.getElem?_append_left hj] at this, fun j hj => by
  have := h (l.length + j) (by rw [List.length_append]; omega)
  rw [List.getElem?_append_right (by omega), Nat.add_sub_cancel_left] at this
  rwa [Nat.add_assoc]⟩
section
variable {C C' : Ctx} {S : St} {E E' : Env} {a : Act} {fz : List Nat} {ids : List (Option (Nat ⊕ Nat))}
theorem Can.F1 (hc : Can C C' E E' fz ids) : ∀ b, E.F C b → E'.F C' b ∧ E'.w.heap[b]? = E.w.heap[b]? := fun b hb => ⟨hc.F b ((le_drops (C := C) (E := E) fz).F b hb).1, by rw [hc.w]⟩
theorem Can.F2 (hc : Can C C' E E' fz ids) : ∀ b, (E.drops fz).F C b → E'.F C' b ∧ E'.w.heap[b]? = (E.drops fz).w.heap[b]? := fun b hb => ⟨hc.F b hb, by rw [hc.w]; rfl⟩
theorem Can.rowR (h : RelE C S E a) (hc : Can C C' E E' fz ids) {i j : Nat} {r : RowC} (hr : S.rows i = some r) (hf : r.fz = false) (hj : ids[j]? = some (some (.inl i))) : RowR C' E' j r ∧ E'.live j := by
  obtain ⟨h0, h1, h2, h3⟩ := hc.row j i hj
  refine ⟨?_, h2⟩
  rcases h.rows i r hr with ⟨f1, f2⟩ | ⟨g, c, f1, f2, f2', f3, f4⟩
  · exact .inl ⟨f1, h1.trans f2⟩
  · rw [if_neg (by rw [hf]; simp)] at f4
    refine .inr ⟨g, c, h1.trans f1, f2, f2', fun n x hx => ?_, ?_⟩
    · obtain ⟨ds, k1, k2⟩ := f3 n x hx
      exact ⟨ds, k1.mono hc.F1, k2.mono (by rw [hc.w])⟩
    · rw [if_neg (by rw [hf]; simp)]
      exact ⟨h3 g f4.1, by rw [hc.w]; exact f4.2⟩
theorem Can.nestR (h : RelE C S E a) (hc : Can C C' E E' fz ids) {i j : Nat} {n : NestC} (hr : S.nest i = some n) (hj : ids[j]? = some (some (.inl i))) : NestR C' E' j n ∧ E'.live j := by
  obtain ⟨h0, h1, h2, h3⟩ := hc.row j i hj
  refine ⟨?_, h2⟩
  rcases h.nests i n hr with ⟨f1, f2⟩ | ⟨g, c, arr, f1, f2, f3, f4, f5, f6, f7, f8⟩
  · exact .inl ⟨f1, h1.trans f2⟩
  · refine .inr ⟨g, c, arr, h1.trans f1, f2, f3, h3 g f4, by rw [hc.w]; exact f5, f6, fun m x hx hh => ?_, f8⟩
    obtain ⟨v, k1, k2, k3⟩ := f7 m x hx hh
    refine ⟨v, k1, ?_, k3⟩
    rcases k2 with k2 | ⟨g', c', e1, e2, e3, e4, e5, arr', e6, e7⟩
    · exact .inl k2
    · refine .inr ⟨g', c', e1, e2, e3, fun q z hz => ?_, h3 g' e5, arr', by rw [hc.w]; exact e6, e7⟩
      obtain ⟨ds, q1, q2⟩ := e4 q z hz
      exact ⟨ds, q1.mono hc.F1, q2.mono (by rw [hc.w])⟩
theorem Can.nilR (hc : Can C C' E E' fz ids) {j : Nat} (e : TypeId) (k : Ki) (hj : ids[j]? = some none) : RowR C' E' j ⟨e, k, [], false⟩ ∧ E'.live j := by
  obtain ⟨h1, h2⟩ := hc.nil j hj
  exact ⟨.inl ⟨rfl, h1⟩, h2⟩
theorem Can.nilN (hc : Can C C' E E' fz ids) {j : Nat} (e t : TypeId) (k : Ki) (hj : ids[j]? = some none) : NestR C' E' j ⟨e, t, k, [], none⟩ ∧ E'.live j := by
  obtain ⟨h1, h2⟩ := hc.nil j hj
  exact ⟨.inl ⟨rfl, h1⟩, h2⟩
theorem Can.rowV (hc : Can C C' E E' fz ids) {i j : Nat} (hj : ids[j]? = some (some (.inl i))) {v : Value} (hv : SVR C E (.row i) v) : SVR C' E' (.row j) v := by
  obtain ⟨_, h1, h2, _⟩ := hc.row j i hj
  exact ⟨h2, hv.2.trans h1.symm⟩
theorem Can.nilV (hc : Can C C' E E' fz ids) {j : Nat} (hj : ids[j]? = some none) {v : Value} (hv : SVR C E .nil v) : SVR C' E' (.row j) v := by
  obtain ⟨h1, h2⟩ := hc.nil j hj
  have hv' : v = .slice none 0 0 := hv
  exact ⟨h2, hv'.trans h1.symm⟩
theorem Can.ptrV (hc : Can C C' E E' fz ids) {i j : Nat} (hj : ids[j]? = some (some (.inr i))) {v : Value} (hv : SVR C E (.ptr i 0) v) : SVR C' E' (.ptr j 0) v := by
  obtain ⟨h1, h2, _⟩ := hc.box j i hj
  exact ⟨h2, by rw [h1]; exact hv.2⟩
theorem svs_nil (C : Ctx) (E : Env) : SVsR C E [] [] := ⟨rfl, fun i s v e1 e2 => by simp at e1⟩
theorem svs_cons {C : Ctx} {E : Env} {s : SV} {v : Value} {ss : List SV} {vs : List Value} (h : SVR C E s v) (hs : SVsR C E ss vs) : SVsR C E (s :: ss) (v :: vs) := ⟨by simp [hs.1], fun i s' v' e1 e2 => by
  cases i with
  | zero => simp at e1 e2; subst e1; subst e2; exact h
  | succ i => exact hs.2 i s' v' (by simpa using e1) (by simpa using e2)⟩
theorem svs_uncons {C : Ctx} {E : Env} {s : SV} {ss : List SV} {vs : List Value} (h : SVsR C E (s :: ss) vs) : ∃ u us, vs = u :: us ∧ SVR C E s u ∧ SVsR C E ss us := by
  cases vs with
  | nil => simp [SVsR] at h
  | cons u us => exact ⟨u, us, rfl, h.2 0 _ u rfl rfl, by have := h.1; simpa using this, fun i s v e1 e2 => h.2 (i + 1) s v (by simpa using e1) (by simpa using e2)⟩
theorem svs_of_nil {C : Ctx} {E : Env} {vs : List Value} (h : SVsR C E [] vs) : vs = [] := List.eq_nil_of_length_eq_zero h.1
theorem rdCK_ok (h : RelE C S E a) (hc : Can C C' E E' fz ids) : ∀ {cs : List CK} {ss : List SV} {vs : List Value} {y : CKs.den cs × List Nat × List (Option (Nat ⊕ Nat))} (m : Nat), rdCK S.rows cs ss = some y → (∀ i ∈ y.2.1, i ∈ fz) → At ids m y.2.2 → SVcs C E ss vs →
    SVcs C' E' (ckV cs y.1 m).1 vs ∧ (ckV cs y.1 m).2.length = y.2.2.length ∧ ObsE C' E' m (ckV cs y.1 m).2
  | [], [], vs, y, m, hr, hz, ha, hs => by
    cases hr
    exact ⟨hs, rfl, ObsE.nil _ _ _⟩
  | [], _ :: _, vs, y, m, hr, hz, ha, hs => by simp [rdCK] at hr
  | .v k :: cs, [], vs, y, m, hr, hz, ha, hs => by simp [rdCK] at hr
  | .own e k :: cs, [], vs, y, m, hr, hz, ha, hs => by simp [rdCK] at hr
  | .v k :: cs, s :: ss, vs, y, m, hr, hz, ha, hs => by
    obtain ⟨u, us, rfl, h1, h2⟩ : ∃ u us, vs = u ++ us ∧ SVc C E s u ∧ SVcs C E ss us := hs
    simp only [rdCK] at hr
    split at hr
    · cases hr
    · obtain ⟨x, f1, g1, g2⟩ := rdK_cell (C := C) hr
      split at g1
      · rename_i y' hy'
        cases g1
        have hx := g2 h h1 (fun i hi => hz i (List.mem_append_left _ hi))
        obtain ⟨k1, k2, k3⟩ := rdCK_ok h hc m hy' (fun i hi => hz i (List.mem_append_right _ hi)) ha h2
        exact ⟨⟨u, us, rfl, VR.mono hc.F2 hx, k1⟩, k2, k3⟩
      · cases g1
  | .own e k :: cs, s :: ss, vs, y, m, hr, hz, ha, hs => by
    obtain ⟨u, us, rfl, h1, h2⟩ : ∃ u us, vs = u ++ us ∧ SVc C E s u ∧ SVcs C E ss us := hs
    cases s with
    | nil =>
      obtain ⟨u, rfl, h1⟩ := h1
      simp only [rdCK] at hr
      split at hr
      · rename_i y' hy'
        cases hr
        obtain ⟨a1, a2⟩ := ha.head
        obtain ⟨k1, k2, k3⟩ := rdCK_ok h hc (m + 1) hy' hz a2 h2
        exact ⟨⟨[u], us, rfl, ⟨u, rfl, hc.nilV a1 h1⟩, k1⟩, by simp [ckV, k2], ObsE.cons (hc.nilR e k a1) k3⟩
      · cases hr
    | row id =>
      obtain ⟨u, rfl, h1⟩ := h1
      simp only [rdCK] at hr
      split at hr
      · rename_i rr hrr
        split at hr
        · rename_i hf hbe
          split at hr
          · rename_i hkk
            split at hr
            · rename_i y' hy'
              cases hr
              have hke : rr.k = k := by cases hkk; rfl
              subst hke
              have hee := Nat.eq_of_beq_eq_true hbe
              subst hee
              obtain ⟨a1, a2⟩ := ha.head
              obtain ⟨k1, k2, k3⟩ := rdCK_ok h hc (m + 1) hy' hz a2 h2
              have hrow := hc.rowR h hrr hf a1
              have hrr' : (⟨rr.e, rr.k, rr.xs, false⟩ : RowC) = rr := by rw [← hf]
              exact ⟨⟨[u], us, rfl, ⟨u, rfl, hc.rowV a1 h1⟩, k1⟩, by simp [ckV, k2], ObsE.cons (by show RowR C' E' m ⟨rr.e, rr.k, rr.xs, false⟩ ∧ _; rw [hrr']; exact hrow) k3⟩
            · cases hr
          · cases hr
        · cases hr
      · cases hr
    | _ => simp [rdCK] at hr
theorem rdBox_ok (h : RelE C S E a) (hc : Can C C' E E' fz ids) {t : TypeId} {cs : List CK} {b : Nat} {y : CKs.den cs × List Nat × List (Option (Nat ⊕ Nat))} (m : Nat) (hr : rdBox S.rows S.box t cs b = some y) (hz : ∀ i ∈ y.2.1, i ∈ fz) (ha : At ids m y.2.2) {v : Value} (hv : SVR C E (.ptr b 0) v) :
    SVR C' E' (.ptr m 0) v ∧ (ckV cs y.1 (m + 1)).2.length + 1 = y.2.2.length ∧ ObsE C' E' m (.box ⟨t, (ckV cs y.1 (m + 1)).1⟩ :: (ckV cs y.1 (m + 1)).2) := by
  unfold rdBox at hr
  split at hr
  · rename_i B hB
    split at hr
    · rename_i hbt
      have hty := Nat.eq_of_beq_eq_true hbt
      split at hr
      · rename_i yc hyc
        cases hr
        obtain ⟨a1, a2⟩ := ha.head
        obtain ⟨o1, arr, o2, o3, o4⟩ := h.boxes b B hB
        obtain ⟨k1, k2, k3⟩ := rdCK_ok h hc (m + 1) hyc hz a2 o3
        obtain ⟨e1, e2, e3⟩ := hc.box m b a1
        refine ⟨hc.ptrV a1 hv, by simp [k2], ObsE.cons ⟨⟨?_, arr, ?_, k1, o4⟩, e2⟩ k3⟩
        · rw [e1]; exact e3 o1
        · rw [e1, hc.w, ← hty]; exact o2
      · cases hr
    · cases hr
  · cases hr
theorem isRa_ok {pre : List (Option (Nat ⊕ Nat))} {j b : Nat} (h : isRa pre j b = true) : pre[j]? = some (some (.inl b)) := by
  unfold isRa at h
  rw [idAt_eq] at h
  split at h
  · rename_i b' hb'
    have := Nat.eq_of_beq_eq_true h
    subst this
    exact hb'
  · cases h
theorem isRn_ok {pre : List (Option (Nat ⊕ Nat))} {j : Nat} (h : isRn pre j = true) : pre[j]? = some none := by
  unfold isRn at h
  rw [idAt_eq] at h
  split at h
  · rename_i hb'
    exact hb'
  · cases h
theorem isAt_ok {pre : List (Option (Nat ⊕ Nat))} {j b : Nat} (h : isAt pre j b = true) : pre[j]? = some (some (.inr b)) := by
  unfold isAt at h
  rw [idAt_eq] at h
  split at h
  · rename_i b' hb'
    have := Nat.eq_of_beq_eq_true h
    subst this
    exact hb'
  · cases h
theorem At.lt {pre : List (Option (Nat ⊕ Nat))} {j : Nat} {x : Option (Nat ⊕ Nat)} (ha : At ids 0 pre) (h : pre[j]? = some x) : ids[j]? = some x := by
  have := ha j (List.getElem?_eq_some_iff.1 h).1
  rw [Nat.zero_add] at this
  rw [this, h]
theorem At.join {pre l : List (Option (Nat ⊕ Nat))} (ha : At ids 0 pre) (hl : At ids pre.length l) : At ids 0 (pre ++ l) := fun j hj => by
  rw [Nat.zero_add]
  by_cases h : j < pre.length
  · rw [List.getElem?_append_left h]; have := ha j h; rwa [Nat.zero_add] at this
  · rw [List.getElem?_append_right (by omega)]
    rw [List.length_append] at hj
    have := hl (j - pre.length) (by omega)
    rwa [show pre.length + (j - pre.length) = j by omega] at this
theorem rdCp_ok (h : RelE C S E a) (hc : Can C C' E E' fz ids) : ∀ {ps : List Cp} {pre : List (Option (Nat ⊕ Nat))} {ss : List SV} {vs : List Value} {y : Cps.den ps × List Nat × List (Option (Nat ⊕ Nat))}, rdCp S.rows S.box pre ps ss = some y → (∀ i ∈ y.2.1, i ∈ fz) → At ids 0 pre → At ids pre.length y.2.2 → SVsR C E ss vs →
    SVsR C' E' (cpV ps y.1 pre.length).1 vs ∧ (cpV ps y.1 pre.length).2.length = y.2.2.length ∧ ObsE C' E' pre.length (cpV ps y.1 pre.length).2
  | [], pre, [], vs, y, hr, hz, hp, ha, hs => by
    cases hr
    rw [svs_of_nil hs]
    exact ⟨svs_nil _ _, rfl, ObsE.nil _ _ _⟩
  | [], pre, _ :: _, vs, y, hr, hz, hp, ha, hs => by simp [rdCp] at hr
  | .v k :: ps, pre, [], vs, y, hr, hz, hp, ha, hs => by simp [rdCp] at hr
  | .box t cs :: ps, pre, [], vs, y, hr, hz, hp, ha, hs => by simp [rdCp] at hr
  | .at j :: ps, pre, [], vs, y, hr, hz, hp, ha, hs => by simp [rdCp] at hr
  | .v k :: ps, pre, s :: ss, vs, y, hr, hz, hp, ha, hs => by
    obtain ⟨u, us, rfl, h1, h2⟩ := svs_uncons hs
    cases s with
    | val k' x =>
      simp only [rdCp] at hr
      split at hr
      · rename_i hk
        subst hk
        split at hr
        · rename_i y' hy'
          cases hr
          obtain ⟨k1, k2, k3⟩ := rdCp_ok h hc hy' hz hp ha h2
          exact ⟨svs_cons (VRv.mono hc.F1 h1) k1, k2, k3⟩
        · cases hr
      · cases hr
    | _ => simp [rdCp] at hr
  | .box t cs :: ps, pre, s :: ss, vs, y, hr, hz, hp, ha, hs => by
    obtain ⟨u, us, rfl, h1, h2⟩ := svs_uncons hs
    cases s with
    | ptr b o =>
      cases o with
      | succ o => simp [rdCp] at hr
      | zero =>
        simp only [rdCp] at hr
        split at hr
        · rename_i x hx
          split at hr
          · rename_i y' hy'
            cases hr
            obtain ⟨a1, a2⟩ := ha.app
            obtain ⟨k1, k2, k3⟩ := rdBox_ok h hc pre.length hx (fun i hi => hz i (List.mem_append_left _ hi)) a1 h1
            have hlen : (pre ++ x.2.2).length = pre.length + 1 + (ckV cs x.1 (pre.length + 1)).2.length := by rw [List.length_append, ← k2]; omega
            obtain ⟨l1, l2, l3⟩ := rdCp_ok h hc hy' (fun i hi => hz i (List.mem_append_right _ hi)) (hp.join a1) (by rw [List.length_append]; exact a2) h2
            rw [hlen] at l1 l2 l3
            refine ⟨svs_cons k1 l1, ?_, ?_⟩
            · simp only [cpV, List.length_cons, List.length_append]
              rw [l2, ← k2]
              omega
            · show ObsE C' E' pre.length (.box ⟨t, (ckV cs x.1 (pre.length + 1)).1⟩ :: ((ckV cs x.1 (pre.length + 1)).2 ++ _))
              rw [← List.cons_append]
              exact k3.append (by rw [List.length_cons, show pre.length + ((ckV cs x.1 (pre.length + 1)).2.length + 1) = pre.length + 1 + (ckV cs x.1 (pre.length + 1)).2.length by omega]; exact l3)
          · cases hr
        · cases hr
    | _ => simp [rdCp] at hr
  | .at j :: ps, pre, s :: ss, vs, y, hr, hz, hp, ha, hs => by
    obtain ⟨u, us, rfl, h1, h2⟩ := svs_uncons hs
    cases s with
    | ptr b o =>
      cases o with
      | succ o => simp [rdCp] at hr
      | zero =>
        simp only [rdCp] at hr
        split at hr
        · rename_i y' hi hy'
          cases hr
          obtain ⟨k1, k2, k3⟩ := rdCp_ok h hc hy' hz hp ha h2
          exact ⟨svs_cons (hc.ptrV (hp.lt (isAt_ok hi)) h1) k1, k2, k3⟩
        · cases hr
    | _ => simp [rdCp] at hr
theorem rdCS_ok (h : RelE C S E a) (hc : Can C C' E E' fz ids) {ne : Nat → Option NestC} (hne : ∀ id n, ne id = some n → S.nest id = some n) {pre : List (Option (Nat ⊕ Nat))} {c : CS} {s : SL} {v : Value} {y : c.den × List Nat × List (Option (Nat ⊕ Nat))} (hr : rdCS S.rows S.box ne pre c s = some y) (hz : ∀ i ∈ y.2.1, i ∈ fz) (hp : At ids 0 pre) (ha : At ids pre.length y.2.2) (hs : SLR C E s v) :
    SLR C' E' (csV c y.1 pre.length).1 v ∧ (csV c y.1 pre.length).2.length = y.2.2.length ∧ ObsE C' E' pre.length (csV c y.1 pre.length).2 := by
  cases c with
  | v k =>
    cases s with
    | one s =>
      simp only [rdCS] at hr
      obtain ⟨x, f1, g1, g2⟩ := rdK_ok (C := C) hr
      cases g1
      exact ⟨VRv.mono hc.F2 (g2 h hs hz), rfl, ObsE.nil _ _ _⟩
    | _ => simp [rdCS] at hr
  | own e k =>
    cases s with
    | one s =>
      cases s with
      | nil =>
        simp only [rdCS] at hr
        cases hr
        obtain ⟨a1, a2⟩ := ha.head
        exact ⟨hc.nilV a1 hs, rfl, ObsE.cons (hc.nilR e k a1) (ObsE.nil _ _ _)⟩
      | row id =>
        simp only [rdCS] at hr
        split at hr
        · rename_i rr hrr
          split at hr
          · rename_i hf hbe
            split at hr
            · rename_i hkk
              cases hr
              have hke : rr.k = k := by cases hkk; rfl
              subst hke
              have hee := Nat.eq_of_beq_eq_true hbe
              subst hee
              obtain ⟨a1, a2⟩ := ha.head
              have hrow := hc.rowR h hrr hf a1
              have hrr' : (⟨rr.e, rr.k, rr.xs, false⟩ : RowC) = rr := by rw [← hf]
              exact ⟨hc.rowV a1 hs, rfl, ObsE.cons (by show RowR C' E' _ ⟨rr.e, rr.k, rr.xs, false⟩ ∧ _; rw [hrr']; exact hrow) (ObsE.nil _ _ _)⟩
            · cases hr
          · cases hr
        · cases hr
      | _ => simp [rdCS] at hr
    | _ => simp [rdCS] at hr
  | nil =>
    cases s with
    | one s =>
      cases s with
      | nil => cases hr; exact ⟨hs, rfl, ObsE.nil _ _ _⟩
      | _ => simp [rdCS] at hr
    | _ => simp [rdCS] at hr
  | box t cs =>
    cases s with
    | one s =>
      cases s with
      | ptr b o =>
        cases o with
        | succ o => simp [rdCS] at hr
        | zero =>
          simp only [rdCS] at hr
          obtain ⟨k1, k2, k3⟩ := rdBox_ok h hc pre.length hr hz ha hs
          exact ⟨k1, by simp [csV, k2], k3⟩
      | _ => simp [rdCS] at hr
    | _ => simp [rdCS] at hr
  | ra j =>
    cases s with
    | one s =>
      cases s with
      | row id =>
        simp only [rdCS] at hr
        split at hr
        · rename_i hi
          cases hr
          exact ⟨hc.rowV (hp.lt (isRa_ok hi)) hs, rfl, ObsE.nil _ _ _⟩
        · cases hr
      | nil =>
        simp only [rdCS] at hr
        split at hr
        · rename_i hi
          cases hr
          exact ⟨hc.nilV (hp.lt (isRn_ok hi)) hs, rfl, ObsE.nil _ _ _⟩
        · cases hr
      | _ => simp [rdCS] at hr
    | _ => simp [rdCS] at hr
  | «at» j =>
    cases s with
    | one s =>
      cases s with
      | ptr b o =>
        cases o with
        | succ o => simp [rdCS] at hr
        | zero =>
          simp only [rdCS] at hr
          split at hr
          · rename_i hi
            cases hr
            exact ⟨hc.ptrV (hp.lt (isAt_ok hi)) hs, rfl, ObsE.nil _ _ _⟩
          · cases hr
      | _ => simp [rdCS] at hr
    | _ => simp [rdCS] at hr
  | fn f ps =>
    cases s with
    | fn f' ss =>
      simp only [rdCS] at hr
      split at hr
      · rename_i hff
        have := Nat.eq_of_beq_eq_true hff
        subst this
        obtain ⟨vs, e1, e2⟩ := hs
        obtain ⟨k1, k2, k3⟩ := rdCp_ok h hc hr hz hp ha e2
        exact ⟨⟨vs, e1, k1⟩, k2, k3⟩
      · cases hr
    | _ => simp [rdCS] at hr
  | nest e t k =>
    cases s with
    | one s =>
      cases s with
      | nil =>
        simp only [rdCS] at hr
        cases hr
        obtain ⟨a1, a2⟩ := ha.head
        exact ⟨hc.nilV a1 hs, rfl, ObsE.cons (hc.nilN _ _ _ a1) (ObsE.nil _ _ _)⟩
      | row id =>
        simp only [rdCS] at hr
        split at hr
        · rename_i n hn
          split at hr
          · rename_i hbe hbt hh
            split at hr
            · rename_i hkk
              cases hr
              obtain ⟨ne', nt, nk, nxs, nh⟩ := n
              have hke : nk = k := by cases hkk; rfl
              subst hke
              have e1 := Nat.eq_of_beq_eq_true hbe
              have e2 := Nat.eq_of_beq_eq_true hbt
              simp only at e1 e2 hh
              subst e1; subst e2; subst hh
              obtain ⟨a1, a2⟩ := ha.head
              obtain ⟨g1, g2⟩ := hc.nestR h (hne _ _ hn) a1
              exact ⟨hc.rowV a1 hs, rfl, ObsE.cons ⟨g1, g2⟩ (ObsE.nil _ _ _)⟩
            · cases hr
          · cases hr
        · cases hr
      | _ => simp [rdCS] at hr
    | _ => simp [rdCS] at hr
theorem rdL_ok (h : RelE C S E a) (hc : Can C C' E E' fz ids) {ne : Nat → Option NestC} (hne : ∀ id n, ne id = some n → S.nest id = some n) {sl : Nat → SL} {val : Nat → Value} (hsl : ∀ t, SLR C E (sl t) (val t)) : ∀ {L : List (Nat × CS)} {pre : List (Option (Nat ⊕ Nat))} {y : CSs.den L × List Nat × List (Option (Nat ⊕ Nat))}, rdL S.rows S.box ne sl pre L = some y → (∀ i ∈ y.2.1, i ∈ fz) → At ids 0 pre → At ids pre.length y.2.2 →
    (∀ t s, look (canL L y.1 pre.length).1 t = some s → SLR C' E' s (val t)) ∧ (canL L y.1 pre.length).2.length = y.2.2.length ∧ ObsE C' E' pre.length (canL L y.1 pre.length).2
  | [], pre, y, hr, hz, hp, ha => by
    cases hr
    exact ⟨fun t s hs => by simp [canL, look] at hs, rfl, ObsE.nil _ _ _⟩
  | c :: L, pre, y, hr, hz, hp, ha => by
    simp only [rdL] at hr
    split at hr
    · rename_i x hx
      split at hr
      · rename_i y' hy'
        cases hr
        obtain ⟨a1, a2⟩ := ha.app
        obtain ⟨k1, k2, k3⟩ := rdCS_ok h hc hne hx (fun i hi => hz i (List.mem_append_left _ hi)) hp a1 (hsl c.1)
        have hlen : (pre ++ x.2.2).length = pre.length + (csV c.2 x.1 pre.length).2.length := by rw [List.length_append, k2]
        obtain ⟨l1, l2, l3⟩ := rdL_ok h hc hne hsl hy' (fun i hi => hz i (List.mem_append_right _ hi)) (hp.join a1) (by rw [List.length_append]; exact a2)
        rw [hlen] at l1 l2 l3
        refine ⟨fun t s hs => ?_, ?_, k3.append l3⟩
        · simp only [canL, look] at hs
          split at hs
          · rename_i hb
            have := Nat.eq_of_beq_eq_true hb
            subst this
            cases hs
            exact k1
          · exact l1 t s hs
        · simp only [canL, List.length_append]
          rw [l2, k2]
      · cases hr
    · cases hr
/-- The blocks of what is handed. -/
def Env.can (E : Env) (fz : List Nat) (ids : List (Option (Nat ⊕ Nat))) : Env :=
  { own := fun b => match (E.drops fz).own b with
      | some (.inl i) => (pos2 ids (.inl i)).map Sum.inl
      | some (.inr i) => if E.bb i = b then (pos2 ids (.inr i)).map Sum.inr else none
      | none => none
    rv := fun j => match ids[j]? with
      | some (some (.inl i)) => E.rv i
      | _ => .slice none 0 0
    bb := fun j => match ids[j]? with
      | some (some (.inr i)) => E.bb i
      | _ => 0
    w := E.w
    live := fun j => j < ids.length }
theorem can_none {b : Nat} (h : (E.drops fz).own b = none) : (E.can fz ids).own b = none := by
  show (match (E.drops fz).own b with | some (.inl i) => (pos2 ids (.inl i)).map Sum.inl | some (.inr i) => if E.bb i = b then (pos2 ids (.inr i)).map Sum.inr else none | none => none) = none
  rw [h]
theorem can_some {b : Nat} {x : Nat ⊕ Nat} (h : (E.can fz ids).own b = some x) : ∃ z, (E.drops fz).own b = some z := by
  cases hz : (E.drops fz).own b with
  | none => rw [can_none hz] at h; cases h
  | some z => exact ⟨z, rfl⟩
theorem drops_own_row {i g : Nat} (hi : fz.contains i = false) (h : E.own g = some (.inl i)) : (E.drops fz).own g = some (.inl i) := by
  show (match E.own g with | some (.inl i) => if fz.contains i then none else some (Sum.inl i) | x => x) = _
  rw [h]
  simp only [hi, if_false, Bool.false_eq_true]
theorem drops_own_box {i g : Nat} (h : E.own g = some (.inr i)) : (E.drops fz).own g = some (.inr i) := by
  show (match E.own g with | some (.inl i) => if fz.contains i then none else some (Sum.inl i) | x => x) = _
  rw [h]
theorem can_can (hi : okIds fz ids = true) (hF : ∀ b, (E.drops fz).F C b → (E.can fz ids).F C' b) : Can C C' E (E.can fz ids) fz ids := by
  obtain ⟨i1, i2⟩ := pos2_at hi
  exact {
    w := rfl
    F := hF
    row := fun j i hj => by
      have hf := i1 i (List.mem_of_getElem? hj)
      refine ⟨hf, by show (match ids[j]? with | some (some (.inl i)) => E.rv i | _ => .slice none 0 0) = _; rw [hj], (List.getElem?_eq_some_iff.1 hj).1, fun g hg => ?_⟩
      show (match (E.drops fz).own g with | some (.inl i) => (pos2 ids (.inl i)).map Sum.inl | some (.inr i) => if E.bb i = g then (pos2 ids (.inr i)).map Sum.inr else none | none => none) = _
      rw [drops_own_row hf hg]
      simp only
      rw [i2 j _ hj]
      rfl
    nil := fun j hj => ⟨by show (match ids[j]? with | some (some (.inl i)) => E.rv i | _ => .slice none 0 0) = _; rw [hj], (List.getElem?_eq_some_iff.1 hj).1⟩
    box := fun j i hj => by
      refine ⟨by show (match ids[j]? with | some (some (.inr i)) => E.bb i | _ => 0) = _; rw [hj], (List.getElem?_eq_some_iff.1 hj).1, fun hg => ?_⟩
      show (match (E.drops fz).own (E.bb i) with | some (.inl i') => (pos2 ids (.inl i')).map Sum.inl | some (.inr i') => if E.bb i' = E.bb i then (pos2 ids (.inr i')).map Sum.inr else none | none => none) = _
      rw [drops_own_box hg]
      simp only
      rw [if_pos trivial, i2 j _ hj]
      rfl }
/-- The state that a list tells is one of the program's. -/
theorem canon_rel (h : RelE C S E a) {ne : Nat → Option NestC} (hne : ∀ id n, ne id = some n → S.nest id = some n) {sl : Nat → SL} {val : Nat → Value} (hsl : ∀ t, SLR C E (sl t) (val t)) {L : List (Nat × CS)} {y : CSs.den L × List Nat × List (Option (Nat ⊕ Nat))} (hr : rdL S.rows S.box ne sl [] L = some y) (hi : okIds y.2.1 y.2.2 = true) {a' : Act}
    (hF : ∀ b, (E.drops y.2.1).F C b → (E.can y.2.1 y.2.2).F C' b) (hown : ∀ b o, (E.can y.2.1 y.2.2).own b = some o → b < E.w.heap.size ∧ (C'.w0.heap.size ≤ b ∨ C'.own0 b)) (hk : Keep C' E.w) (hgl : C'.gl = C.gl)
    (hval : ∀ t, a'.tmps.getD t undef = val t) (hsz : a'.tmps.size = C'.n.hi) (harg : ∀ t, C'.n.ar.contains t = true → a'.tmps.getD t undef = C'.ag t) (hdf : a'.defers = []) :
    RelE C' (canon L y.1) (E.can y.2.1 y.2.2) a' ∧ (canL L y.1 0).2.length = y.2.2.length := by
  have hc := can_can (C := C) (C' := C') hi hF
  obtain ⟨k1, k2, k3⟩ := rdL_ok h hc hne hsl hr (fun i hi => hi) (fun j hj => by simp at hj) (fun j _ => by rw [List.length_nil, Nat.zero_add])
  rw [List.length_nil] at k1 k2 k3
  have hob : ∀ j o, obAt (canL L y.1 0).2 j = some o → ObE C' (E.can y.2.1 y.2.2) j o := fun j o ho => by
    rw [obAt_eq] at ho
    have := k3 j o ho
    rwa [Nat.zero_add] at this
  have hrow : ∀ id r, (canon L y.1).rows id = some r → obAt (canL L y.1 0).2 id = some (.row r) := fun id r hr' => by
    have : (match obAt (canL L y.1 0).2 id with | some (.row r) => some r | _ => none) = some r := hr'
    split at this
    · rename_i r' hr''; cases this; exact hr''
    · cases this
  have hbox : ∀ id r, (canon L y.1).box id = some r → obAt (canL L y.1 0).2 id = some (.box r) := fun id r hr' => by
    have : (match obAt (canL L y.1 0).2 id with | some (.box r) => some r | _ => none) = some r := hr'
    split at this
    · rename_i r' hr''; cases this; exact hr''
    · cases this
  have hnest : ∀ id n, (canon L y.1).nest id = some n → obAt (canL L y.1 0).2 id = some (.nest n) := fun id n hn => by
    have : (match obAt (canL L y.1 0).2 id with | some (.nest n) => some n | _ => none) = some n := hn
    split at this
    · rename_i r' hr''; cases this; exact hr''
    · cases this
  refine ⟨{
    nests := fun id n hn => (hob id _ (hnest id n hn)).1
    idn := fun id n hn => (hob id _ (hnest id n hn)).2
    slots := fun t => by
      show SLR C' _ (match look (canL L y.1 0).1 t with | some s => s | none => .one .undef) _
      cases hl : look (canL L y.1 0).1 t with
      | none => exact trivial
      | some s => rw [hval]; exact k1 t s hl
    rows := fun id r hr' => (hob id _ (hrow id r hr')).1
    boxes := fun id b hb => (hob id _ (hbox id b hb)).1
    ownlt := hown
    keep := hk
    size := hsz
    arg := harg
    defers := hdf
    idr := fun id r hr' => (hob id _ (hrow id r hr')).2
    idb := fun id b hb => (hob id _ (hbox id b hb)).2
    glob := fun g v hv => by
      rw [hgl] at hv
      obtain ⟨e1, e2⟩ := h.glob g v hv
      refine ⟨hF g ((le_drops (C := C) (E := E) y.2.1).F g e1).1, fun i x hx => ?_⟩
      obtain ⟨ds, f1, f2⟩ := e2 i x hx
      exact ⟨ds, f1.mono hc.F1, f2⟩ }, k2⟩
end
end Go.Proofs.YtlioalaehkohlaaDoor.Vm
