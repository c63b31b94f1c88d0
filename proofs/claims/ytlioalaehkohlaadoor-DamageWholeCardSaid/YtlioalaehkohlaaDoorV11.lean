/- Stores and appends, whole. Conditions: as each theorem states them. -/
import Derived.Test.YtlioalaehkohlaaDoorV10
namespace Go.Proofs.YtlioalaehkohlaaDoor.Vm
open Go Go.RowKit
set_option linter.unusedVariables false
set_option linter.unusedSimpArgs false
section
variable {C : Ctx} {S : St} {E : Env} {q : Nat} {a : Act} {o : Oper} {R : Type} {T : Tys} {r : R}
theorem store_run {P : Program} {w : World} {t : TypeId} {n : Nat} (hs : (sizeOf t).run P w = .ok n w) {g o : Nat} {v : Value} (hv : v.cells.toList.length = n) (h1 : ∀ u ∈ v.cells.toList, u.oneCell' = true) {arr : Array Value} {ty : TypeId}
    (hg : w.heap[g]? = some (.cells arr ty (0, 0))) (hl : o + v.cells.toList.length ≤ arr.size) :
    (Instr.storeAt t (.pointer (some ⟨g, o, none⟩)) v).run P w = .ok () (w.setRow g (arr.toList.take o ++ v.cells.toList ++ arr.toList.drop (o + v.cells.toList.length)).toArray) := by
  have h2 := run_storeCells_at P g o ty v.cells.toList 0 arr w hg (by simpa using hl) h1
  simp only [Nat.add_zero] at h2
  have hv' : v.cells.size = n := by rw [← hv, Array.length_toList]
  simp only [Instr.storeAt, Instr.sureAddr, storeVar, Sem.run_bind, Sem.run_pure, Result.andThen_ok, hs]
  rw [if_neg (by rw [hv']; simp)]
  exact h2
theorem one_cells {v : Value} (h : v.oneCell' = true) : v.cells = #[v] := by cases v <;> simp [Value.oneCell'] at h <;> rfl
theorem nx_frs : ∀ (l : List Nat) (S : St), (S.frs l).nx = S.nx
  | [], _ => rfl
  | i :: r, S => (nx_frs r (S.freeze i)).trans rfl
theorem frs_sl : ∀ (l : List Nat) (S : St), (S.frs l).sl = S.sl
  | [], _ => rfl
  | i :: l, S => (frs_sl l (S.freeze i)).trans rfl
def storeTc : SV → List (Nat ⊕ Nat)
  | .ptr b _ => [.inr b]
  | .ael b _ _ _ _ => [.inr b]
  | .elem id _ _ _ => [.inl id]
  | _ => []
theorem storeK_ok {P : Program} (hP : C.P = P) (hT : TyOk P T) (h : RelE C S E a) {t : TypeId} {s1 s2 : SV} {v1 v2 : Value} (h1 : SVR C E s1 v1) (h2 : SVR C E s2 v2) {K : St → Option R} (hK : storeK T t S s1 s2 K = some r) :
    ∃ S' E', K S' = some r ∧ (S'.nx = S.nx ∧ S'.sl = S.sl) ∧ (Instr.storeAt t v1 v2).run P E.w = .ok () E'.w ∧ RelE C S' E' a ∧ E'.live = E.live ∧ (∃ fz, Fr C E E' (storeTc s1) fz) := by
  subst hP
  unfold storeK at hK
  split at hK
  · rename_i b o
    split at hK
    · rename_i B hB
      obtain ⟨hlive, rfl⟩ := h1
      have aggCase : ∀ {k : Ki} {x : k.den} {pre post : List SV}, T.kind t = some k → SVR C E (.val k x) v2 → takeC B.cs o = some pre → dropC B.cs (o + k.sz) = some post → K (S.newBox b ⟨B.t, pre ++ cellsSV k x ++ post⟩) = some r →
          ∃ S' E', K S' = some r ∧ (S'.nx = S.nx ∧ S'.sl = S.sl) ∧ (Instr.storeAt t (.pointer (some ⟨E.bb b, o, none⟩)) v2).run C.P E.w = .ok () E'.w ∧ RelE C S' E' a ∧ E'.live = E.live ∧ (∃ fz, Fr C E E' [.inr b] fz) := by
        intro k x pre post hk h2 hp hd hK
        have hv := VR.sz1 h2
        have hlen := hv.len
        obtain ⟨arr, g1, g2, g3⟩ := box_put h hB (o := o) (ss := cellsSV k x) (cs := v2.cells.toList) hp (by rw [hlen]; exact hd) (cellsSV_ok hv) (fun u hu => hv.one u hu)
        rw [hlen] at g3
        refine ⟨_, _, hK, ⟨rfl, rfl⟩, ?_, g3, rfl, [], Fr.write h (h.boxes b B hB).1 _⟩
        have := store_run (P := C.P) (w := E.w) (t := t) ((hT.kd t _ hk).size E.w) (g := E.bb b) (o := o) (v := v2) hlen (fun u hu => hv.one u hu) g1 g2
        rw [hlen] at this
        exact this
      have bldCase : ∀ {k : Ki} {x : k.den} {ns : List Nat} {pre post cs : List SV}, T.kind t = some k → SVR C E (.bld k x ns) v2 → takeC B.cs o = some pre → dropC B.cs (o + k.sz) = some post → setNils (cellsSV k x) ns = some cs → K (S.newBox b ⟨B.t, pre ++ cs ++ post⟩) = some r →
          ∃ S' E', K S' = some r ∧ (S'.nx = S.nx ∧ S'.sl = S.sl) ∧ (Instr.storeAt t (.pointer (some ⟨E.bb b, o, none⟩)) v2).run C.P E.w = .ok () E'.w ∧ RelE C S' E' a ∧ E'.live = E.live ∧ (∃ fz, Fr C E E' [.inr b] fz) := by
        intro k x ns pre post cs hk h2 hp hd hn hK
        have hv := VR.sz1 h2.1
        have hlen := hv.len
        obtain ⟨arr, g1, g2, g3⟩ := box_put h hB (o := o) (ss := cs) (cs := v2.cells.toList) hp (by rw [hlen]; exact hd) (setNils_ok hn (cellsSV_ok hv) h2.2) (fun u hu => hv.one u hu)
        rw [hlen] at g3
        refine ⟨_, _, hK, ⟨rfl, rfl⟩, ?_, g3, rfl, [], Fr.write h (h.boxes b B hB).1 _⟩
        have := store_run (P := C.P) (w := E.w) (t := t) ((hT.kd t _ hk).size E.w) (g := E.bb b) (o := o) (v := v2) hlen (fun u hu => hv.one u hu) g1 g2
        rw [hlen] at this
        exact this
      have oneCase : ∀ {s : SV} {pre post : List SV}, s.single = true → T.one t = true → takeC B.cs o = some pre → dropC B.cs (o + 1) = some post → SVR C E s v2 → v2.oneCell' = true → K (S.newBox b ⟨B.t, pre ++ [s] ++ post⟩) = some r →
          ∃ S' E', K S' = some r ∧ (S'.nx = S.nx ∧ S'.sl = S.sl) ∧ (Instr.storeAt t (.pointer (some ⟨E.bb b, o, none⟩)) v2).run C.P E.w = .ok () E'.w ∧ RelE C S' E' a ∧ E'.live = E.live ∧ (∃ fz, Fr C E E' [.inr b] fz) := by
        intro s pre post hsg ht hp hd hs ho hK'
        have hc := one_cells ho
        obtain ⟨arr, g1, g2, g3⟩ := box_put h hB (o := o) (ss := [s]) (cs := [v2]) hp hd (ERl.one (R := SVc C E) (SVc.of hs hsg)) (by simpa using ho)
        refine ⟨_, _, hK', ⟨rfl, rfl⟩, ?_, g3, rfl, [], Fr.write h (h.boxes b B hB).1 _⟩
        have := store_run (P := C.P) (w := E.w) (t := t) (n := 1) (one_size hT ht E.w).1 (g := E.bb b) (o := o) (v := v2) (by rw [hc]; rfl) (by rw [hc]; simpa using ho) g1 (by rw [hc]; exact g2)
        rw [hc] at this
        exact this
      split at hK
      · rename_i k1 k2 hk
        split at hK
        · rename_i k x
          split at hK
          · rename_i hkk
            subst hkk
            split at hK
            · rename_i pre post hp hd
              exact aggCase hk h2 hp hd hK
            · cases hK
          · cases hK
        · rename_i k x ns
          split at hK
          · rename_i hkk
            subst hkk
            split at hK
            · rename_i pre post cs hp hd hn
              exact bldCase hk h2 hp hd hn hK
            · cases hK
          · cases hK
        · cases hK
      · rename_i n k1 hk
        split at hK
        · rename_i k x
          split at hK
          · rename_i hkk
            subst hkk
            split at hK
            · rename_i pre post hp hd
              exact aggCase hk h2 hp hd hK
            · cases hK
          · cases hK
        · cases hK
      · split at hK
        · rename_i pre post ht hp hd
          split at hK
          · rename_i k x
            split at hK
            · rename_i ha
              exact oneCase (by simp [SV.single, ha]) ht hp hd h2 (by
                have h2' : VRv E.w (E.F C) _ _ v2 := h2
                unfold VRv at h2'
                rw [if_neg (by rw [ha]; simp)] at h2'
                exact h2'.one v2 (by simp)) hK
            · cases hK
          · exact oneCase rfl ht hp hd h2 (by have : v2 = .slice none 0 0 := h2; rw [this]; rfl) hK
          · exact oneCase rfl ht hp hd h2 (by rw [h2.2]; rfl) hK
          · split at hK
            · rename_i rr hrr
              exact oneCase rfl ht hp hd h2 (by rw [h2.2]; exact row_one h hrr) hK
            · cases hK
          · cases hK
        · cases hK
    · cases hK
  · rename_i b o n sz i
    split at hK
    · rename_i B hB
      split at hK
      · rename_i pre n' k xs post hp hd
        split at hK
        · rename_i hn hsz
          have hn := Nat.eq_of_beq_eq_true hn
          have hsz := Nat.eq_of_beq_eq_true hsz
          subst hn; subst hsz
          split at hK
          · rename_i hk
            obtain ⟨y, fz, hK1, hy⟩ := rdK_ok (C := C) hK
            have hR := h.frs (l := fz)
            have hB' : (S.frs fz).box b = some B := by rw [boxes_frs]; exact hB
            have hyv := VR.sz1 (hy h h2 (fun i hi => hi))
            obtain ⟨hlive, hin, rfl⟩ := h1
            obtain ⟨hown, arr, hh, hsv, hone⟩ := hR.boxes b B hB'
            obtain ⟨p1, p2⟩ := takeC_ok hp hsv
            obtain ⟨d1, d2⟩ := dropC_ok hd hsv
            obtain ⟨c1, c2, hc, e1, e2⟩ : ∃ c1 c2, arr.toList.drop o = c1 ++ c2 ∧ VR _ _ (.arr n k) xs c1 ∧ SVcs C (E.drops fz) post c2 := d2
            obtain ⟨hl, hE⟩ : List.length xs = n ∧ ERl (fun x c => VR (E.drops fz).w ((E.drops fz).F C) k x c) xs c1 := e1
            obtain ⟨cp, ds, cq, rfl, f1, f2, f3⟩ := ERl.at (s := k.sz) (fun x c hc => VR.len hc) (by omega : i < xs.length) hE
            have hlen := hyv.len
            have hdl := f2.len
            have harr : arr.toList = arr.toList.take o ++ (cp ++ ds ++ cq) ++ c2 := by rw [List.append_assoc, ← hc, List.take_append_drop]
            have ho : (arr.toList.take o).length = o := by rw [List.length_take]; omega
            have hat : o + i * k.sz + v2.cells.toList.length ≤ arr.size := by
              have := congrArg List.length harr
              simp only [List.length_append, Array.length_toList, ho] at this
              omega
            have hnew : arr.toList.take (o + i * k.sz) ++ v2.cells.toList ++ arr.toList.drop (o + i * k.sz + v2.cells.toList.length) = arr.toList.take o ++ (cp ++ v2.cells.toList ++ cq) ++ c2 := by
              have t1 : arr.toList.take (o + i * k.sz) = arr.toList.take o ++ cp := by
                conv => lhs; rw [harr]
                rw [show arr.toList.take o ++ (cp ++ ds ++ cq) ++ c2 = (arr.toList.take o ++ cp) ++ (ds ++ cq ++ c2) by simp [List.append_assoc], List.take_append_of_le_length (by rw [List.length_append, ho]; omega), List.take_of_length_le (by rw [List.length_append, ho]; omega)]
              have t2 : arr.toList.drop (o + i * k.sz + v2.cells.toList.length) = cq ++ c2 := by
                conv => lhs; rw [harr]
                rw [show arr.toList.take o ++ (cp ++ ds ++ cq) ++ c2 = (arr.toList.take o ++ cp ++ ds) ++ (cq ++ c2) by simp [List.append_assoc], List.drop_append_of_le_length (by simp only [List.length_append, ho]; omega), List.drop_of_length_le (by simp only [List.length_append, ho]; omega), List.nil_append]
              rw [t1, t2]; simp [List.append_assoc]
            have hw := setRow_heap E.w (E.bb b) arr (arr.toList.take (o + i * k.sz) ++ v2.cells.toList ++ arr.toList.drop (o + i * k.sz + v2.cells.toList.length)).toArray B.t (0, 0) hh
            have hwr := Fr.write hR hown (arr.toList.take (o + i * k.sz) ++ v2.cells.toList ++ arr.toList.drop (o + i * k.sz + v2.cells.toList.length)).toArray (fz := fz)
            have hfr := (Fr.drops h fz _).trans hwr
            refine ⟨_, { E.drops fz with w := E.w.setRow (E.bb b) (arr.toList.take (o + i * k.sz) ++ v2.cells.toList ++ arr.toList.drop (o + i * k.sz + v2.cells.toList.length)).toArray }, hK1, ⟨nx_frs fz S, frs_sl fz S⟩, ?_, hR.writeBox hown _ (hR.idb b B hB') ⟨hown, _, hw, ?_, ?_⟩, rfl, fz, hfr⟩
            · exact store_run (P := C.P) (w := E.w) (t := t) ((hT.kd t _ hk).size E.w) (g := E.bb b) (o := o + i * k.sz) (v := v2) hlen (fun u hu => hyv.one u hu) hh hat
            · have hz := SVcs.mono hwr.le (ERl.app (ERl.app p2 (ERl.one (R := SVc C (E.drops fz)) (x := .val (.arr n k) (List.set xs i y)) (show VR _ _ (.arr n k) (List.set xs i y) _ from ⟨by rw [List.length_set]; exact hl, f3 y _ hyv⟩))) e2)
              rw [← hnew] at hz
              exact hz
            · intro u hu
              rw [List.toList_toArray] at hu
              simp only [List.mem_append] at hu
              rcases hu with (hu | hu) | hu
              · exact hone u (List.mem_of_mem_take hu)
              · exact hyv.one u hu
              · exact hone u (List.mem_of_mem_drop hu)
          · cases hK
        · cases hK
      · cases hK
    · cases hK
  · rename_i id sz i o
    split at hK
    · rename_i rr hrr
      split at hK
      · rename_i kt hf hsz hk
        obtain ⟨y, fz, hK1, hy⟩ := rdK_ok (C := C) hK
        split at hK1
        · rename_i z hfz' hz
          have hR := h.frs (l := fz)
          have hrr' := rows_frs (l := fz) hrr hfz'
          have hyv := hy h h2 (fun i hi => hi)
          obtain ⟨hlive, g, n, c, hrv, rfl, hin⟩ := h1
          have hlt' : i < rr.xs.length := by
            rcases h.rows id rr hrr with ⟨_, e2⟩ | ⟨g', c', e2, _⟩
            · rw [e2] at hrv; cases hrv
            · rw [e2] at hrv; cases hrv; exact hin
          have hvr := VR.sz1 hyv
          have hown : (E.drops fz).own g = some (.inl id) := by
            rcases hR.rows id rr hrr' with ⟨_, e2⟩ | ⟨g', c', e2, _, _, _, e4⟩
            · rw [show E.rv id = _ from e2] at hrv; cases hrv
            · rw [show E.rv id = _ from e2] at hrv; cases hrv
              rw [if_neg (by rw [hf]; simp)] at e4
              exact e4.1
          obtain ⟨arr, g1, g2, g3⟩ := elem_part hR hrr' hf hlt' hrv hvr hz
          have hsz := Nat.eq_of_beq_eq_true hsz
          subst hsz
          refine ⟨_, _, hK1, ?_, ?_, g3, rfl, fz, (Fr.drops h fz _).trans (Fr.write hR hown _)⟩
          · exact ⟨nx_frs fz S, frs_sl fz S⟩
          · have := store_run (P := C.P) (w := E.w) (t := t) ((hT.kd t _ hk).size E.w) (g := g) (o := i * rr.k.sz + o) (v := v2) hvr.len (fun u hu => hvr.one u hu) g1 g2
            exact this
        · cases hK1
      · cases hK
    · cases hK
  · cases hK
end
end Go.Proofs.YtlioalaehkohlaaDoor.Vm
