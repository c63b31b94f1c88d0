/- Each operation's answer. Conditions: as each theorem states them. -/
import Derived.Test.YtlioalaehkohlaaDoorV6
namespace Go.Proofs.YtlioalaehkohlaaDoor.Vm
open Go Go.RowKit
set_option linter.unusedVariables false
set_option linter.unusedSimpArgs false
section
variable {C : Ctx} {S : St} {E : Env} {q : Nat} {a : Act} {o : Oper} {R : Type} {T : Tys} {r : R}
theorem lenK_ok {P : Program} (hT : TyOk P T) (h : RelE C S E a) {s : SV} {v : Value} (hs : SVR C E s v) {K : SV → Option R} (hK : lenK S.rows s K = some r) :
    ∃ n : Nat, K (.val (.int .i64) (n : Int)) = some r ∧ ∃ A c, v = .slice A n c := by
  unfold lenK at hK
  replace hs := unnl_ok hs
  generalize unnl s = s' at hK hs
  split at hK
  · rename_i k xs
    obtain ⟨A, c, hv, _⟩ := list_cells hs
    exact ⟨_, hK, ⟨A, c, hv⟩⟩
  · rename_i k xs
    obtain ⟨A, c, hv, _⟩ := list_cells hs.1
    exact ⟨_, hK, ⟨A, c, hv⟩⟩
  · exact ⟨0, hK, ⟨none, 0, hs⟩⟩
  · rename_i id
    split at hK
    · rename_i r' hr'
      refine ⟨_, hK, ?_⟩
      rw [hs.2]
      rcases h.rows id r' hr' with ⟨h1, h2⟩ | ⟨g, c, h1, _⟩
      · rw [h1]; exact ⟨none, 0, h2⟩
      · exact ⟨_, c, h1⟩
    · cases hK
  · cases hK
theorem fieldK_ok {P : Program} {K : (k' : Ki) → k'.den → Option R} {w : World} {F : Nat → Prop} (hT : TyOk P T) : ∀ {k : Ki} {f : Nat} {x : k.den}, k.fieldK f x K = some r →
    ∀ {fs : List Field} {o : Nat} {cs : List Value}, FieldsAt T P k o fs → VR w F k x cs →
    ∃ k' x' fd c1 ds c2, K k' x' = some r ∧ fs[f]? = some fd ∧ cs = c1 ++ ds ++ c2 ∧ fd.offset = o + c1.length ∧ VR w F k' x' ds ∧ T.kind fd.type = some k' ∧ 0 < k'.sz := by
  intro k
  induction k with
  | pair k1 k2 ih1 ih2 =>
    intro f x hK fs o cs hf hv
    cases fs with
    | nil => simp [FieldsAt] at hf
    | cons fd fs =>
      obtain ⟨h1, h2, h3, h4⟩ := hf
      obtain ⟨c1, c2, rfl, g1, g2⟩ := hv
      cases f with
      | zero => exact ⟨k1, x.1, fd, [], c1, c2, hK, rfl, by simp, by simpa using h1, g1, h2, h3⟩
      | succ f =>
        obtain ⟨k', x', fd', d1, ds, d2, e1, e2, e3, e4, e5, e6⟩ := ih2 (f := f) (x := x.2) hK h4 g2
        refine ⟨k', x', fd', c1 ++ d1, ds, d2, e1, by simpa using e2, by rw [e3]; simp [List.append_assoc], ?_, e5, e6⟩
        rw [e4, List.length_append, g1.len, Nat.add_assoc]
  | _ => intro f x hK; simp [Ki.fieldK] at hK
theorem struct_of {P : Program} {t : TypeId} {k1 k2 : Ki} (hT : TyOk P T) (hk : T.kind t = some (.pair k1 k2)) : ∃ fs, P.underlying t = some (.struct fs) ∧ FieldsAt T P (.pair k1 k2) 0 fs.toList := (hT.kd t _ hk).2
/-- A struct's field. -/
theorem field_ok {P : Program} (hT : TyOk P T) {t : TypeId} {k : Ki} (hk : T.kind t = some k) {f : Nat} {x : k.den} {K : (k' : Ki) → k'.den → Option R} (hK : k.fieldK f x K = some r)
    {w : World} {F : Nat → Prop} {v : Value} (hv : VRv w F k x v) : ∃ k' x' v', K k' x' = some r ∧ VRv w F k' x' v' ∧ ∀ w, (Instr.field t v f).run P w = .ok v' w := by
  cases k with
  | pair k1 k2 =>
    obtain ⟨fs, hu, hf⟩ := struct_of hT hk
    have hv' : ∃ cs : List Value, v = .agg cs.toArray ∧ VR w F (.pair k1 k2) x cs := by simpa [VRv, Ki.agg] using hv
    obtain ⟨cs, rfl, hv2⟩ := hv'
    obtain ⟨k', x', fd, c1, ds, c2, e1, e2, e3, e4, e5, e6, e7⟩ := fieldK_ok hT hK hf hv2
    refine ⟨k', x', mkV k' ds, e1, VRv.of_cells e5, fun w => ?_⟩
    have hfd : fs[f]? = some fd := by simpa using e2
    have hkd := hT.kd _ _ e6
    simp only [Instr.field, Sem.run_bind, run_underlying hu, Result.andThen_ok, hfd, asAgg, Sem.run_pure, part, hkd.agg w, mkV]
    simp only [Nat.zero_add] at e4
    cases ha : k'.agg with
    | true =>
      simp only [if_true, Sem.run_bind, hkd.size w, Result.andThen_ok, Sem.run_pure]
      congr 2
      rw [e3, e4, ← e5.len]
      simp [List.append_assoc]
    | false =>
      have h1 : ∃ u, ds = [u] := by
        have := e5.len
        cases k' <;> simp [Ki.agg] at ha <;> simp [Ki.sz] at this <;> exact List.length_eq_one_iff.1 this
      obtain ⟨u, rfl⟩ := h1
      simp [e3, e4]
  | _ => simp [Ki.fieldK] at hK
/-- The address of a part of what is read. -/
theorem fieldAddr_ref {P : Program} (hT : TyOk P T) {t : TypeId} {k : Ki} (hk : T.kind t = some k) {f : Nat} {x : k.den} {K : (k' : Ki) → k'.den → Option R} (hK : k.fieldK f x K = some r)
    {C : Ctx} {E : Env} {v : Value} (hv : SVR C E (.ref k x) v) : ∃ k' x' v', K k' x' = some r ∧ SVR C E (.ref k' x') v' ∧ ∀ w, (Instr.fieldAt t v f).run P w = .ok v' w := by
  cases k with
  | pair k1 k2 =>
    obtain ⟨fs, hu, hf⟩ := struct_of hT hk
    obtain ⟨b, o, cs, rfl, hF, hv2, hc⟩ := hv
    obtain ⟨k', x', fd, c1, ds, c2, e1, e2, e3, e4, e5, e6, e7⟩ := fieldK_ok hT hK hf hv2
    subst e3
    have hcd := (CellsAt.app (CellsAt.app hc).1).2
    refine ⟨k', x', _, e1, ⟨b, o + c1.length, ds, rfl, hF, e5, hcd⟩, fun w => ?_⟩
    have hfd : fs[f]? = some fd := by simpa using e2
    have hkd := hT.kd _ _ e6
    simp only [Nat.zero_add] at e4
    have hne : k'.sz ≠ 0 := by omega
    simp [Instr.fieldAt, run_underlying hu, hfd, Instr.sureAddr, fieldPlace, hkd.size w, hne, add_at, e4]
  | _ => simp [Ki.fieldK] at hK
theorem fieldAddr_ptr {P : Program} (hT : TyOk P T) {t : TypeId} {l : List Nat} (hl : look T.fo t = some l) {f d : Nat} (hd : l[f]? = some d) (b o : Nat) (w : World) :
    (Instr.fieldAt t (.pointer (some ⟨b, o, none⟩)) f).run P w = .ok (.pointer (some ⟨b, o + d, none⟩)) w := by
  obtain ⟨fs, hu, h1⟩ := hT.fo t l hl
  obtain ⟨fd, h2, h3, i, h4, h5⟩ := h1 f d hd
  simp [Instr.fieldAt, run_underlying hu, h2, Instr.sureAddr, fieldPlace, sizeOf, typeInfo, h4, h5, add_at, h3]
theorem elem_size {P : Program} (hT : TyOk P T) {t : TypeId} {k : Ki} (hk : T.kind t = some (.list k)) (w : World) : ∃ e, P.underlying t = some (.slice e) ∧ (∀ w, (sizeOf e).run P w = .ok k.sz w) ∧ 0 < k.sz ∧ T.kind e = some k ∧ ∀ e', look T.sl t = some e' → e' = e := by
  obtain ⟨e, h1, h2, h3, h4⟩ := (hT.kd t _ hk).2
  exact ⟨e, h1, fun w => (hT.kd e k h2).size w, h3, h2, h4⟩
/-- An element's address. -/
theorem indexAddr_list {P : Program} (hT : TyOk P T) {t : TypeId} {k : Ki} (hk : T.kind t = some (.list k)) {C : Ctx} {E : Env} {xs : List k.den} {v : Value} (hv : VRv E.w (E.F C) (.list k) xs v) {n : Int} (h0 : 0 ≤ n) (h1 : n < (xs.length : Int)) (ik : IntKind) :
    ∃ v', SVR C E (.ref k (xs.getD n.toNat k.zero)) v' ∧ ∀ w, (Instr.indexAt t v (.int ik n)).run P w = .ok v' w := by
  obtain ⟨e, hu, hs, hp, _⟩ := elem_size hT hk E.w
  obtain ⟨A, c, rfl, hl, hm, hh⟩ := list_cells hv
  rcases hh with ⟨rfl, _⟩ | ⟨b, o, cs, rfl, hF, hE, hc⟩
  · simp at h1; omega
  · have hlt : n.toNat < xs.length := by omega
    obtain ⟨ds, g1, g2⟩ := hE.spread hc n.toNat xs[n.toNat] (List.getElem?_eq_getElem hlt)
    have hx : xs.getD n.toNat k.zero = xs[n.toNat] := by simp [List.getD_eq_getElem?_getD, hlt]
    refine ⟨.pointer (some ⟨b, o + n.toNat * k.sz, none⟩), ⟨b, _, ds, rfl, hF, by rw [hx]; exact g1, g2⟩, fun w => ?_⟩
    simp [Instr.indexAt, asIntOf, run_underlying hu, h0, h1, hs, add_at]
theorem indexAddr_row {P : Program} (hT : TyOk P T) {t : TypeId} {k : Ki} (hk : T.kind t = some (.list k)) {v : Value} {g m c : Nat} (hv : v = .slice (some ⟨g, 0, none⟩) m c) {n : Int} (h0 : 0 ≤ n) (h1 : n < (m : Int)) (ik : IntKind) (w : World) :
    (Instr.indexAt t v (.int ik n)).run P w = .ok (.pointer (some ⟨g, n.toNat * k.sz + 0, none⟩)) w := by
  obtain ⟨e, hu, hs, hp, _⟩ := elem_size hT hk w
  subst hv
  simp [Instr.indexAt, asIntOf, run_underlying hu, h0, h1, hs, add_at]
theorem sbytes_at (s : ByteArray) (i : Nat) (h : i < s.size) : ((s[i]'h).toNat : Int) = (sbytes s).getD i 0 := by
  have h' : i < s.data.toList.length := by simpa using h
  simp only [sbytes, List.getD_eq_getElem?_getD, List.getElem?_map, List.getElem?_eq_getElem h', Option.map_some, Option.getD_some]
  rfl
def OptR (C : Ctx) (E : Env) : Option SL → Option Value → Prop
  | none, none => True
  | some s, some v => SLR C E s v
  | _, _ => False
theorem cutK_ok {n : Nat} {lo hi : Option SL} {K : Nat → Nat → Option R} (hK : cutK n lo hi K = some r) {C : Ctx} {E : Env} {vl vh : Option Value} (hl : OptR C E lo vl) (hh : OptR C E hi vh) :
    ∃ l h, K l h = some r ∧ l ≤ h ∧ h ≤ n ∧ ∀ (P : Program) (b : Bool) (cap : Nat) (w : World), n ≤ cap → (Instr.sliceBounds b n cap vl vh none).run P w = .ok (l, h, cap) w := by
  unfold cutK at hK
  cases hi with
  | none =>
    cases vh with
    | some v => exact hh.elim
    | none =>
      cases lo with
      | none =>
        cases vl with
        | some v => exact hl.elim
        | none => exact ⟨0, n, hK, Nat.zero_le _, Nat.le_refl _, fun P b cap w hc => by simp [Instr.sliceBounds]⟩
      | some s =>
        cases vl with
        | none => exact hl.elim
        | some v =>
          simp only at hK
          split at hK
          · rename_i e1
            cases e1
          · rename_i ik l e1
            cases e1
            have hv : v = .int ik l := VRv.int (w := E.w) (F := E.F C) hl
            subst hv
            split at hK
            · rename_i h0
              split at hK
              · rename_i h1
                replace h0 : @LE.le Int _ 0 l := h0
                replace h1 : @LE.le Int _ l n := h1
                refine ⟨_, _, hK, by omega, Nat.le_refl _, fun P b cap w hc => ?_⟩
                have e : l.toNat ≤ n := by omega
                simp [Instr.sliceBounds, Instr.sliceBound, asIntOf, h0, h1]
              · cases hK
            · cases hK
          · cases hK
  | some s =>
    cases vh with
    | none => exact hh.elim
    | some v =>
      simp only at hK
      split at hK
      · rename_i e1; cases e1
      · rename_i ik h e1
        cases e1
        have hv : v = .int ik h := VRv.int (w := E.w) (F := E.F C) hh
        subst hv
        cases lo with
        | none =>
          cases vl with
          | some v => exact hl.elim
          | none =>
            simp only at hK
            split at hK
            · rename_i h0
              split at hK
              · rename_i h1
                replace h0 : @LE.le Int _ 0 h := h0
                replace h1 : @LE.le Int _ h n := h1
                refine ⟨_, _, hK, Nat.zero_le _, by omega, fun P b cap w hc => ?_⟩
                have e : @LE.le Int _ h cap := by omega
                simp [Instr.sliceBounds, Instr.sliceBound, asIntOf, h0, e]
              · cases hK
            · cases hK
        | some s =>
          cases vl with
          | none => exact hl.elim
          | some v =>
            split at hK
            · rename_i e1; cases e1
            · rename_i ik' l e1
              cases e1
              have hv : v = .int ik' l := VRv.int (w := E.w) (F := E.F C) hl
              subst hv
              split at hK
              · rename_i h0
                split at hK
                · rename_i h1
                  split at hK
                  · rename_i h2
                    replace h0 : @LE.le Int _ 0 l := h0
                    replace h1 : @LE.le Int _ l h := h1
                    replace h2 : @LE.le Int _ h n := h2
                    refine ⟨_, _, hK, by omega, by omega, fun P b cap w hc => ?_⟩
                    have e : @LE.le Int _ h cap := by omega
                    have e0 : @LE.le Int _ 0 h := by omega
                    have e1 : @LE.le Int _ l (Int.toNat h) := by omega
                    have e2 : ¬ @LT.lt Int _ (@max Int _ h 0) l := by omega
                    simp [Instr.sliceBounds, Instr.sliceBound, asIntOf, h0, e, e0, e1]
                    exact fun hh => absurd hh e2
                  · cases hK
                · cases hK
              · cases hK
            · cases hK
      · cases hK
theorem ER.take : ∀ {w : World} {F : Nat → Prop} {k : Ki} {xs : List k.den} {cs : List Value} (n : Nat), ER w F k xs cs → ER w F k (xs.take n) (cs.take (n * k.sz))
  | _, _, _, [], _, n, h => by cases h; simp [ER]
  | _, _, _, x :: r, _, 0, h => by simp [ER]
  | _, _, _, x :: r, _, n + 1, h => by
    obtain ⟨c1, c2, rfl, h1, h2⟩ := h
    refine ⟨c1, c2.take (n * _), ?_, h1, ER.take n h2⟩
    rw [Nat.add_mul, Nat.one_mul, List.take_append, h1.len, Nat.add_sub_cancel, List.take_of_length_le (by rw [h1.len]; omega)]
theorem ER.drop : ∀ {w : World} {F : Nat → Prop} {k : Ki} {xs : List k.den} {cs : List Value} (n : Nat), ER w F k xs cs → ER w F k (xs.drop n) (cs.drop (n * k.sz))
  | _, _, _, [], _, n, h => by cases h; simp [ER]
  | _, _, _, x :: r, _, 0, h => by simpa using h
  | w, F, k, x :: r, _, n + 1, h => by
    obtain ⟨c1, c2, rfl, h1, h2⟩ := h
    have := ER.drop n h2
    have e : (c1 ++ c2).drop ((n + 1) * k.sz) = c2.drop (n * k.sz) := by
      rw [Nat.add_mul, Nat.one_mul, List.drop_append, h1.len, Nat.add_sub_cancel, List.drop_of_length_le (l := c1) (by rw [h1.len]; omega), List.nil_append]
    rw [e]
    exact this
/-- A cut of a slice that is read. -/
theorem cut_list {w : World} {F : Nat → Prop} {k : Ki} {xs : List k.den} {b o c : Nat} {cs : List Value} (hb : F b) (h : ER w F k xs cs) (hc : CellsAt w b o cs) (hm : c ≤ maxLen) (hl : xs.length ≤ c) {l m : Nat} (h1 : l ≤ m) (h2 : m ≤ xs.length) :
    VRv w F (.list k) ((xs.take m).drop l) (.slice (if c = l then some ⟨b, o, none⟩ else some ((⟨b, o, none⟩ : Addr).add (l * k.sz))) (m - l) (c - l)) := by
  have hlen : ((xs.take m).drop l).length = m - l := by simp; omega
  have hE := (h.take m).drop l
  have hcut : CellsAt w b (o + l * k.sz) ((cs.take (m * k.sz)).drop (l * k.sz)) := fun j v hj => by
    rw [List.getElem?_drop, List.getElem?_take] at hj
    split at hj
    · have := hc (l * k.sz + j) v hj
      rwa [← Nat.add_assoc] at this
    · cases hj
  by_cases hcl : c = l
  · have hz : (xs.take m).drop l = [] := List.eq_nil_of_length_eq_zero (by omega)
    rw [if_pos hcl, hz, show m - l = 0 by omega]
    exact VRv.of_nil _ _ _ _ _ (by omega)
  · rw [if_neg hcl, add_at, ← hlen]
    exact VRv.of_list hb hE hcut (by omega) (by omega)
theorem cut0_ok {n : Nat} {hi : Option SL} {K : Nat → Nat → Option R} (hK : cutK n none hi K = some r) {C : Ctx} {E : Env} {vh : Option Value} (hh : OptR C E hi vh) :
    ∃ h, K 0 h = some r ∧ h ≤ n ∧ ∀ (P : Program) (b : Bool) (cap : Nat) (w : World), n ≤ cap → (Instr.sliceBounds b n cap none vh none).run P w = .ok (0, h, cap) w := by
  unfold cutK at hK
  cases hi with
  | none =>
    cases vh with
    | some v => exact hh.elim
    | none => exact ⟨n, hK, Nat.le_refl _, fun P b cap w hc => by simp [Instr.sliceBounds]⟩
  | some s =>
    cases vh with
    | none => exact hh.elim
    | some v =>
      simp only at hK
      split at hK
      · rename_i e1; cases e1
      · rename_i ik h e1
        cases e1
        have hv : v = .int ik h := VRv.int (w := E.w) (F := E.F C) hh
        subst hv
        split at hK
        · rename_i h0
          split at hK
          · rename_i h1
            replace h0 : @LE.le Int _ 0 h := h0
            replace h1 : @LE.le Int _ h n := h1
            refine ⟨_, hK, by omega, fun P b cap w hc => ?_⟩
            have e : @LE.le Int _ h cap := by omega
            simp [Instr.sliceBounds, Instr.sliceBound, asIntOf, h0, e]
          · cases hK
        · cases hK
      · cases hK
end
end Go.Proofs.YtlioalaehkohlaaDoor.Vm
