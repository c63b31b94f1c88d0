/- Stores and appends, whole. Conditions: as each theorem states them. -/
import Derived.Test.YtdbaglogmdkbpaaDoorV10
namespace Go.Proofs.YtdbaglogmdkbpaaDoor.Vm
open Go Go.RowKit
set_option linter.unusedVariables false
set_option linter.unusedSimpArgs false
section
variable {C : Ctx} {S : St} {E : Env} {q : Nat} {a : Act} {o : Oper} {R : Type} {T : Tys} {r : R}
theorem store_run {P : Program} {w : World} {t : TypeId} {n : Nat} (hs : (sizeOf t).run P w = .ok n w) {g o : Nat} {v : Value} (hv : v.cells.toList.length = n) (h1 : ∀ u ∈ v.cells.toList, u.oneCell' = true) {arr : Array Value} {ty : TypeId}
    (hg : w.heap[g]? = some (.cells arr ty (0, 0))) (hl : o + v.cells.toList.length ≤ arr.size) :
    (Instr.storeAt t (.pointer (some ⟨g, o, none⟩)) v).run P w = .ok () (w.setRow g (arr.toList.take o ++ v.cells.toList ++ arr.toList.drop (o + v.cells.toList.length)).toArray) := by
  have h2 := run_storeCells_at P g o ty v.cells.toList 0 arr w hg (by simpa using hl) h1
  simp only [Nat.add_zero] at h2
  have hv' : v.cells.size = n := by rw [← hv, Array.length_toList]
  simp only [Instr.storeAt, Instr.sureAddr, storeVar, Sem.run_bind, Sem.run_pure, Result.andThen_ok, hs]
  rw [if_neg (by rw [hv']; simp)]
  exact h2
theorem one_cells {v : Value} (h : v.oneCell' = true) : v.cells = #[v] := by cases v <;> simp [Value.oneCell'] at h <;> rfl
theorem nx_frs : ∀ (l : List Nat) (S : St), (S.frs l).nx = S.nx
  | [], _ => rfl
  | i :: r, S => (nx_frs r (S.freeze i)).trans rfl
theorem frs_sl : ∀ (l : List Nat) (S : St), (S.frs l).sl = S.sl
  | [], _ => rfl
  | i :: l, S => (frs_sl l (S.freeze i)).trans rfl
def storeTc : SV → List (Nat ⊕ Nat)
  | .ptr b _ => [.inr b]
  | .elem id _ _ _ => [.inl id]
  | _ => []
theorem storeK_ok {P : Program} (hP : C.P = P) (hT : TyOk P T) (h : RelE C S E a) {t : TypeId} {s1 s2 : SV} {v1 v2 : Value} (h1 : SVR C E s1 v1) (h2 : SVR C E s2 v2) {K : St → Option R} (hK : storeK T t S s1 s2 K = some r) :
    ∃ S' E', K S' = some r ∧ (S'.nx = S.nx ∧ S'.sl = S.sl) ∧ (Instr.storeAt t v1 v2).run P E.w = .ok () E'.w ∧ RelE C S' E' a ∧ E'.live = E.live ∧ (∃ fz, Fr C E E' (storeTc s1) fz) := by
  subst hP
  unfold storeK at hK
  split at hK
  · rename_i b o
    split at hK
    · rename_i B hB
      obtain ⟨hlive, rfl⟩ := h1
      have oneCase : ∀ {s : SV}, T.one t = true → Nat.blt o B.cs.length = true → SVR C E s v2 → v2.oneCell' = true → K (S.newBox b ⟨B.t, B.cs.take o ++ [s] ++ B.cs.drop (o + 1)⟩) = some r →
          ∃ S' E', K S' = some r ∧ (S'.nx = S.nx ∧ S'.sl = S.sl) ∧ (Instr.storeAt t (.pointer (some ⟨E.bb b, o, none⟩)) v2).run C.P E.w = .ok () E'.w ∧ RelE C S' E' a ∧ E'.live = E.live ∧ (∃ fz, Fr C E E' [.inr b] fz) := by
        intro s ht hlt hs ho hK'
        have hc := one_cells ho
        have hlt' : o < B.cs.length := by simpa [Nat.blt_eq] using hlt
        have hss : SVsR C E [s] [v2] := ⟨rfl, fun i s' v' e1 e2 => by
          cases i with
          | zero => simp at e1 e2; subst e1; subst e2; exact hs
          | succ i => simp at e2⟩
        obtain ⟨arr, g1, g2, g3⟩ := box_put h hB (o := o) (ss := [s]) (cs := [v2]) (by simp; omega) hss (by simpa using ho)
        refine ⟨_, _, hK', ⟨rfl, rfl⟩, ?_, g3, rfl, [], Fr.write h (h.boxes b B hB).1 _⟩
        have := store_run (P := C.P) (w := E.w) (t := t) (n := 1) (one_size hT ht E.w).1 (g := E.bb b) (o := o) (v := v2) (by rw [hc]; rfl) (by rw [hc]; simpa using ho) g1 (by rw [hc]; exact g2)
        rw [hc] at this
        exact this
      split at hK
      · rename_i k1 k2 hk
        split at hK
        · rename_i k x
          split at hK
          · rename_i hkk
            subst hkk
            split at hK
            · rename_i hle
              have hv := VR.sz1 h2
              have hlen := hv.len
              have hle' : o + (Ki.pair k1 k2).sz ≤ B.cs.length := Nat.le_of_ble_eq_true hle
              obtain ⟨arr, g1, g2, g3⟩ := box_put h hB (o := o) (ss := cellsSV (.pair k1 k2) x) (cs := v2.cells.toList) (by rw [hlen]; exact hle') (cellsSV_ok hv) (fun u hu => hv.one u hu)
              rw [hlen] at g3
              refine ⟨_, _, hK, ⟨rfl, rfl⟩, ?_, g3, rfl, [], Fr.write h (h.boxes b B hB).1 _⟩
              have := store_run (P := C.P) (w := E.w) (t := t) ((hT.kd t _ hk).size E.w) (g := E.bb b) (o := o) (v := v2) hlen (fun u hu => hv.one u hu) g1 g2
              rw [hlen] at this
              exact this
            · cases hK
          · cases hK
        · cases hK
      · split at hK
        · rename_i ht hlt
          split at hK
          · rename_i ha
            exact oneCase ht hlt h2 (by
              have h2' : VRv E.w (E.F C) _ _ v2 := h2
              unfold VRv at h2'
              rw [if_neg (by rw [ha]; simp)] at h2'
              exact h2'.one v2 (by simp)) hK
          · cases hK
        · rename_i ht hlt
          exact oneCase ht hlt h2 (by have : v2 = .slice none 0 0 := h2; rw [this]; rfl) hK
        · rename_i ht hlt
          exact oneCase ht hlt h2 (by rw [h2.2]; rfl) hK
        · rename_i ht hlt
          split at hK
          · rename_i rr hrr
            exact oneCase ht hlt h2 (by rw [h2.2]; exact row_one h hrr) hK
          · cases hK
        · cases hK
    · cases hK
  · rename_i id sz i
    split at hK
    · rename_i rr hrr
      split at hK
      · rename_i hf hsz
        split at hK
        · rename_i hk
          obtain ⟨y, fz, hK1, hy⟩ := rdK_ok (C := C) hK
          split at hK1
          · cases hK1
          · rename_i hfz
            have hfz' : fz.contains id = false := by simpa using hfz
            have hR := h.frs (l := fz)
            have hrr' := rows_frs (l := fz) hrr hfz'
            have hyv := hy h h2 (fun i hi => hi)
            obtain ⟨hlive, g, n, c, hrv, rfl, hin⟩ := h1
            have hlt' : i < rr.xs.length := by
              rcases h.rows id rr hrr with ⟨_, e2⟩ | ⟨g', c', e2, _⟩
              · rw [e2] at hrv; cases hrv
              · rw [e2] at hrv; cases hrv; exact hin
            have hvr := VR.sz1 hyv
            have hown : (E.drops fz).own g = some (.inl id) := by
              rcases hR.rows id rr hrr' with ⟨_, e2⟩ | ⟨g', c', e2, _, _, _, e4⟩
              · rw [show E.rv id = _ from e2] at hrv; cases hrv
              · rw [show E.rv id = _ from e2] at hrv; cases hrv
                rw [if_neg (by rw [hf]; simp)] at e4
                exact e4.1
            obtain ⟨arr, g1, g2, g3⟩ := elem_put hR hrr' hf hlt' hrv hvr
            have hsz := Nat.eq_of_beq_eq_true hsz
            subst hsz
            refine ⟨_, _, hK1, ?_, ?_, g3, rfl, fz, (Fr.drops h fz _).trans (Fr.write hR hown _)⟩
            · exact ⟨nx_frs fz S, frs_sl fz S⟩
            · have := store_run (P := C.P) (w := E.w) (t := t) ((hT.kd t _ hk).size E.w) (g := g) (o := i * rr.k.sz) (v := v2) hvr.len (fun u hu => hvr.one u hu) g1 g2
              exact this
        · cases hK
      · cases hK
    · cases hK
  · cases hK
end
end Go.Proofs.YtdbaglogmdkbpaaDoor.Vm
