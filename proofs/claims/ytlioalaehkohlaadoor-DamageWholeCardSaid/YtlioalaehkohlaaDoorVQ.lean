/- Structs are compared. Conditions: as each theorem states them. -/
import Derived.Test.YtlioalaehkohlaaDoorV4
import Derived.Laws.StructEq
namespace Go.Proofs.YtlioalaehkohlaaDoor.Vm
open Go Go.RowKit
set_option linter.unusedVariables false
set_option linter.unusedSimpArgs false
theorem part_ok {T : Tys} {P : Program} {t : TypeId} {k : Ki} (h : KindAt T P t k) {pre ds post : List Value} (hl : ds.length = k.sz) (w : World) : (part t (pre ++ ds ++ post).toArray pre.length).run P w = .ok (mkV k ds) w := by
  simp only [part, Sem.run_bind, h.agg w, Result.andThen_ok, mkV]
  cases ha : k.agg with
  | true =>
    simp only [if_true, Sem.run_bind, h.size w, Result.andThen_ok, Sem.run_pure]
    congr 2
    rw [← hl]
    simp [List.append_assoc]
  | false =>
    have h1 : ∃ u, ds = [u] := by
      cases k <;> simp [Ki.agg] at ha <;> simp [Ki.sz] at hl <;> exact List.length_eq_one_iff.1 hl
    obtain ⟨u, rfl⟩ := h1
    simp
theorem mkV_of {w : World} {F : Nat → Prop} {k : Ki} {x : k.den} {v : Value} (h : VRv w F k x v) : ∃ cs, VR w F k x cs ∧ v = mkV k cs := by
  unfold VRv at h
  unfold mkV
  split at h
  · rename_i hk
    obtain ⟨cs, h1, h2⟩ := h
    exact ⟨cs, h2, by rw [if_pos hk, h1]⟩
  · rename_i hk
    exact ⟨[v], h, by rw [if_neg hk]; rfl⟩
theorem eq_fields {T : Tys} {P : Program} (hT : TyOk P T) {w : World} {F : Nat → Prop} {n d : Nat}
    (ih : ∀ (k : Ki) (t : TypeId) (x y : k.den) (u v : Value), cmpT P n k t = true → T.kind t = some k → VRv w F k x u → VRv w F k y v → ∀ w', (Op.equalIn d t u v).run P w' = .ok (k.eqB x y) w') :
    ∀ (k : Ki) (fs : List Field) (o : Nat) (x y : k.den) (c1 c2 d1 d2 : List Value), cmpF (cmpT P n) fs k = true → FieldsAt T P k o fs → VR w F k x d1 → VR w F k y d2 → c1.length = o → c2.length = o →
      ∀ w', (Op.eqFields d (c1 ++ d1).toArray (c2 ++ d2).toArray fs).run P w' = .ok (k.eqB x y) w' := by
  intro k
  induction k with
  | unit =>
    intro fs o x y c1 c2 d1 d2 hc hf h1 h2 e1 e2 w'
    cases fs with
    | nil => simp [Op.eqFields, Ki.eqB]
    | cons f fs => simp [cmpF] at hc
  | pair a b iha ihb =>
    intro fs o x y c1 c2 d1 d2 hc hf h1 h2 e1 e2 w'
    cases fs with
    | nil => simp [cmpF] at hc
    | cons f fs =>
      simp only [cmpF, Bool.and_eq_true, bne_iff_ne, ne_eq] at hc
      obtain ⟨hn, hc1, hc2⟩ := hc
      obtain ⟨g1, g2, g3, g4⟩ := hf
      obtain ⟨p1, q1, rfl, r1, s1⟩ := h1
      obtain ⟨p2, q2, rfl, r2, s2⟩ := h2
      have hkd := hT.kd f.type a g2
      have t1 := part_ok hkd (pre := c1) (ds := p1) (post := q1) r1.len w'
      have t2 := part_ok hkd (pre := c2) (ds := p2) (post := q2) r2.len w'
      rw [e1, ← g1, List.append_assoc] at t1
      rw [e2, ← g1, List.append_assoc] at t2
      have heq := ih a f.type x.1 y.1 _ _ hc1 g2 (VRv.of_cells r1) (VRv.of_cells r2) w'
      have hrest := ihb fs (o + a.sz) x.2 y.2 (c1 ++ p1) (c2 ++ p2) q1 q2 hc2 g4 s1 s2 (by rw [List.length_append, e1, r1.len]) (by rw [List.length_append, e2, r2.len]) w'
      rw [List.append_assoc, List.append_assoc] at hrest
      simp only [Op.eqFields, Sem.run_bind, Sem.run_ite]
      rw [if_pos (by simpa using hn)]
      simp only [t1, t2, heq, Result.andThen_ok]
      have hb : Ki.eqB (.pair a b) x y = (a.eqB x.1 y.1 && b.eqB x.2 y.2) := rfl
      rw [hb]
      cases a.eqB x.1 y.1 with
      | false => simp
      | true => simpa using hrest
  | _ => intro fs o x y c1 c2 d1 d2 hc; cases fs <;> simp [cmpF] at hc
theorem eq_ok {T : Tys} {P : Program} (hT : TyOk P T) {w : World} {F : Nat → Prop} : ∀ (n d : Nat), n ≤ d → ∀ (k : Ki) (t : TypeId) (x y : k.den) (u v : Value), cmpT P n k t = true → T.kind t = some k → VRv w F k x u → VRv w F k y v → ∀ w', (Op.equalIn d t u v).run P w' = .ok (k.eqB x y) w'
  | 0, d, _, k, t, x, y, u, v, hc, hk, h1, h2, w' => by simp [cmpT] at hc
  | n + 1, 0, hd, k, t, x, y, u, v, hc, hk, h1, h2, w' => by omega
  | n + 1, d + 1, hd, k, t, x, y, u, v, hc, hk, h1, h2, w' => by
    have hkd := hT.kd t k hk
    cases k with
    | int ik =>
      obtain rfl := VRv.int h1
      obtain rfl := VRv.int h2
      exact run_equalIn_int w' d t ik ik _ _ hkd.2
    | bool =>
      obtain rfl := VRv.bool h1
      obtain rfl := VRv.bool h2
      exact run_equalIn_bool w' d t _ _ hkd.2
    | str =>
      obtain rfl := VRv.str h1
      obtain rfl := VRv.str h2
      exact run_equalIn_string w' d t _ _ hkd.2
    | unit => simp [cmpT] at hc
    | list k => simp [cmpT] at hc
    | arr m k => simp [cmpT] at hc
    | ref k => simp [cmpT] at hc
    | nl k => simp [cmpT] at hc
    | pair a b =>
      simp only [cmpT, Bool.and_eq_true, Bool.not_eq_true'] at hc
      obtain ⟨hs, hc⟩ := hc
      obtain ⟨fs, hu, hf⟩ : ∃ fs, P.underlying t = some (.struct fs) ∧ FieldsAt T P (.pair a b) 0 fs.toList := hkd.2
      rw [hu] at hc
      simp only at hc
      have hu' : P.underlying t = some (.struct (P.fieldsOf t)) := by
        have : P.fieldsOf t = fs := by unfold Program.fieldsOf; rw [hu]
        rw [this]; exact hu
      have hff : P.fieldsOf t = fs := by unfold Program.fieldsOf; rw [hu]
      obtain ⟨c1, e1, rfl⟩ := mkV_of h1
      obtain ⟨c2, e2, rfl⟩ := mkV_of h2
      have m1 : mkV (.pair a b) c1 = .agg c1.toArray := rfl
      have m2 : mkV (.pair a b) c2 = .agg c2.toArray := rfl
      rw [m1, m2, run_equalIn_struct w' d t _ _ hu' hs, hff]
      have := eq_fields hT (n := n) (d := d) (fun k t x y u v hc hk h1 h2 w' => eq_ok hT n d (by omega) k t x y u v hc hk h1 h2 w') (.pair a b) fs.toList 0 x y [] [] c1 c2 hc hf e1 e2 rfl rfl w'
      simpa using this
end Go.Proofs.YtlioalaehkohlaaDoor.Vm
