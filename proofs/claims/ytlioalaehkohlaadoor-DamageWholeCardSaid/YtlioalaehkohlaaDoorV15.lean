/- One operation of the machine is one of the program. Conditions: as each theorem states them. -/
import Derived.Test.YtlioalaehkohlaaDoorVC
namespace Go.Proofs.YtlioalaehkohlaaDoor.Vm
open Go Go.RowKit
set_option linter.unusedVariables false
set_option linter.unusedSimpArgs false
section
variable {C : Ctx} {S : St} {E : Env} {q : Nat} {a : Act} {o : Oper} {R : Type} {T : Tys} {r : R}
theorem ones_ok : ∀ {l : List SL} {ss : List SV} {vs : List Value}, ones l = some ss → vs.length = l.length → (∀ (i : Nat) (s : SL) (v : Value), l[i]? = some s → vs[i]? = some v → SLR C E s v) → SVsR C E ss vs
  | [], ss, vs, h, hl, hs => by
    simp [ones] at h
    subst h
    exact ⟨by simpa using hl, fun i s v e1 e2 => by simp at e1⟩
  | .one s :: l, ss, vs, h, hl, hs => by
    unfold ones at h
    split at h
    · rename_i l' hl'
      cases h
      cases vs with
      | nil => simp at hl
      | cons u us =>
        have := ones_ok hl' (vs := us) (by simpa using hl) (fun i s v e1 e2 => hs (i + 1) s v (by simpa using e1) (by simpa using e2))
        refine ⟨by simp [this.1], fun i s' v e1 e2 => ?_⟩
        cases i with
        | zero =>
          simp at e1 e2
          subst e1; subst e2
          exact hs 0 _ u rfl rfl
        | succ i => exact this.2 i s' v (by simpa using e1) (by simpa using e2)
    · cases h
  | .tup _ :: l, ss, vs, h, hl, hs => by simp [ones] at h
  | .fn _ _ :: l, ss, vs, h, hl, hs => by simp [ones] at h
theorem optR (h : RelE C S E a) : ∀ x : Option Operand, OptR C E (x.map (opv S.sl)) (x.map a.eval)
  | none => trivial
  | some x => eval_ok h x
theorem frz_heap (w : World) (g n : Nat) (cs : Array Value) (e : TypeId) (h : w.heap[g]? = some (.cells cs e (0, 0))) (k : Nat) :
    (w.freeze ⟨g, n, none⟩ 1).heap[k]? = if k = g then some (.cells cs e (n, n + 1)) else w.heap[k]? := by
  unfold World.freeze
  rw [if_neg (by decide)]
  show (w.heap.modify g _)[k]? = _
  rw [Array.getElem?_modify]
  by_cases hk : k = g
  · subst hk
    rw [if_pos rfl, if_pos rfl, h]
    rfl
  · rw [if_neg (fun e => hk e.symm), if_neg hk]
theorem frz_cell (w : World) (g n : Nat) (cs : Array Value) (e : TypeId) (h : w.heap[g]? = some (.cells cs e (0, 0))) (o : Nat) : (w.freeze ⟨g, n, none⟩ 1).cell? ⟨g, o, none⟩ = w.cell? ⟨g, o, none⟩ := by
  have h2 := frz_heap w g n cs e h g
  rw [if_pos rfl] at h2
  unfold World.cell?
  rw [h2, h]
/-- A literal that is turned to its own type is marked; it is shared from then on. -/
theorem mark_ok {P : Program} (hP : C.P = P) (hT : TyOk P T) (h : RelE C S E a) {t : TypeId} {id : Nat} {r : RowC} (hr : S.rows id = some r) (hf : r.fz = false) (hne : r.xs ≠ []) (hrk : r.k = .int .u8) (hk : T.kind t = some (.list (.int .u8))) {x : Operand} (hx : SVR C E (.row id) (a.eval x)) (ho : o.op = .convert t t x) :
    OpOk C S E q a o { v := .one (.val (.list r.k) r.xs), kl := [id] } := by
  subst hP
  obtain ⟨e, hd, hs, hp, hke, _⟩ := elem_size hT hk E.w
  have he : C.P.underlying e = some (.int .u8) := (hT.kd e _ hke).2
  obtain ⟨hlive, hv⟩ := hx
  rcases h.rows id r hr with ⟨e1, _⟩ | ⟨g, c, e1, e2, e3, e4, e5⟩
  · exact absurd e1 hne
  · rw [hf, if_neg (by decide)] at e5
    obtain ⟨hown, arr, harr, hsz⟩ := e5
    rw [e1] at hv
    have hrun : (execOp a.eval o).run C.P E.w = .ok (.value (.slice (some ⟨g, 0, none⟩) r.xs.length c)) (E.w.freeze ⟨g, arr.size, none⟩ 1) := by
      have hsh : E.w.shape? g = some (r.e, arr.size) := by unfold World.shape?; rw [harr]
      simp [execOp, ho, hv, convert, run_underlying hd, run_underlying he, markStringish, hsh]
    have hws : (E.w.freeze ⟨g, arr.size, none⟩ 1).heap.size = E.w.heap.size := by
      unfold World.freeze
      rw [if_neg (by decide)]
      exact Array.size_modify
    have hh := frz_heap E.w g arr.size arr r.e harr
    have hglt : C.w0.heap.size ≤ g ∨ C.own0 g := (h.ownlt g _ hown).2
    have hF : ∀ b, E.F C b → Env.F C { E with own := fun b => if E.own b = some (.inl id) then none else E.own b, w := E.w.freeze ⟨g, arr.size, none⟩ 1 } b ∧ (E.w.freeze ⟨g, arr.size, none⟩ 1).heap[b]? = E.w.heap[b]? := fun b hb => by
      have hbg : b ≠ g := fun x => by rw [x] at hb; rw [hb.1] at hown; cases hown
      refine ⟨⟨?_, hb.2.1, by show b < (E.w.freeze ⟨g, arr.size, none⟩ 1).heap.size; rw [hws]; exact hb.2.2⟩, by rw [hh, if_neg hbg]⟩
      show (if E.own b = some (.inl id) then none else E.own b) = none
      rw [hb.1]; rfl
    have hle : Env.Le C E { E with own := fun b => if E.own b = some (.inl id) then none else E.own b, w := E.w.freeze ⟨g, arr.size, none⟩ 1 } := ⟨fun _ hl => hl, fun _ _ => rfl, fun _ _ => rfl, hF⟩
    have hoth : ∀ b i, E.own b = some i → i ≠ .inl id → (if E.own b = some (.inl id) then none else E.own b) = some i ∧ (E.w.freeze ⟨g, arr.size, none⟩ 1).heap[b]? = E.w.heap[b]? := fun b i hb hi => by
      have hbg : b ≠ g := fun x => by rw [x, hown] at hb; exact hi (Option.some.inj hb).symm
      refine ⟨?_, by rw [hh, if_neg hbg]⟩
      rw [if_neg (by rw [hb]; intro x; exact hi (Option.some.inj x)), hb]
    have hrows : ∀ i r', (S.kills [id]).rows i = some r' → i ≠ id ∧ S.rows i = some r' := fun i r' hi => by
      obtain ⟨k1, k2⟩ := kills_rows [id] S i r' hi
      exact ⟨fun x => k2 (by rw [x]; exact List.mem_singleton_self _), k1⟩
    refine ok_run (v := .slice (some ⟨g, 0, none⟩) r.xs.length c) hrun ⟨{ E with own := fun b => if E.own b = some (.inl id) then none else E.own b, w := E.w.freeze ⟨g, arr.size, none⟩ 1 }, rfl, ?_, ?_, fun i hi => .inl hi, ⟨hle, fun b i hb hi => ?_⟩⟩
    · exact {
        slots := fun t => (h.slots t).mono hle
        rows := fun i r' hi => by
          obtain ⟨k1, k2⟩ := hrows i r' hi
          exact (h.rows i r' k2).mono hle (h.idr i r' k2) (fun g' hg' => hoth g' _ hg' (fun x => k1 (Sum.inl.inj x)))
        boxes := fun i b hi => (h.boxes i b hi).mono hle (h.idb i b hi) (fun g' hg' => hoth g' _ hg' (fun x => by cases x))
        ownlt := fun b o hb => by
          have hb' : (if E.own b = some (.inl id) then none else E.own b) = some o := hb
          split at hb'
          · cases hb'
          · obtain ⟨k1, k2⟩ := h.ownlt b o hb'
            exact ⟨by show b < (E.w.freeze ⟨g, arr.size, none⟩ 1).heap.size; rw [hws]; exact k1, k2⟩
        keep := ⟨by unfold World.freeze; rw [if_neg (by decide)]; exact h.keep.os, by unfold World.freeze; rw [if_neg (by decide)]; exact h.keep.tape, by unfold World.freeze; rw [if_neg (by decide)]; exact h.keep.output, by show _ ≤ (E.w.freeze ⟨g, arr.size, none⟩ 1).heap.size; rw [hws]; exact h.keep.size, fun b hb hnb => by
          show (E.w.freeze ⟨g, arr.size, none⟩ 1).heap[b]? = _
          have hbg : b ≠ g := fun x => by
            rw [x] at hb hnb
            rcases hglt with y | y
            · omega
            · exact hnb y
          rw [hh, if_neg hbg]
          exact h.keep.block b hb hnb⟩
        size := h.size
        arg := h.arg
        defers := h.defers
        idr := fun i r' hi => h.idr i r' (hrows i r' hi).2
        idb := fun i b hi => h.idb i b hi
        nests := fun i n hn => by
          obtain ⟨k1, k2⟩ := kills_nest [id] S i n hn
          exact (h.nests i n k1).mono hle (h.idn i n k1) (fun g' hg' => hoth g' _ hg' (fun x => k2 (by rw [Sum.inl.inj x]; exact List.mem_singleton_self _)))
        idn := fun i n hn => h.idn i n (kills_nest [id] S i n hn).1
        glob := h.glob.mono hle }
    · show VRv _ _ (.list r.k) r.xs _
      unfold VRv
      rw [if_neg (show ¬ ((Ki.list r.k).agg = true) from Bool.false_ne_true)]
      refine ⟨_, c, rfl, e2, e3, fun i y hy => ?_⟩
      obtain ⟨ds, k1, k2⟩ := e4 i y hy
      refine ⟨g, 0, ds, rfl, ⟨?_, .inr (hglt.imp (fun y => y) (fun y => y)), ?_⟩, k1.mono hF, fun j v hj => ?_⟩
      · show (if E.own g = some (.inl id) then none else E.own g) = none
        rw [if_pos hown]
      · show g < (E.w.freeze ⟨g, arr.size, none⟩ 1).heap.size
        rw [hws]; exact (h.ownlt g _ hown).1
      · rw [Nat.zero_add]
        exact (frz_cell E.w g arr.size arr r.e harr _).trans (k2 j v hj)
    · exact ⟨.inl (hoth b i hb (fun x => hi (by rw [x]; exact List.mem_singleton_self _))).1, (hoth b i hb (fun x => hi (by rw [x]; exact List.mem_singleton_self _))).2⟩
set_option maxHeartbeats 1000000 in
theorem unnlS_ok {s : SL} {v : Value} (h : SLR C E s v) : SLR C E (unnlS s) v := by
  cases s with
  | one s => exact unnl_ok h
  | _ => exact h
theorem refK_ok {s : SL} {K : SL → Option R} {v : Value} (hK : refK s K = some r) (h : SLR C E s v) : ∃ s', K s' = some r ∧ SLR C E s' v := by
  unfold refK at hK
  split at hK
  · rename_i k x
    obtain ⟨y, h1, h2⟩ := Option.bind_eq_some_iff.1 hK
    refine ⟨_, h2, ?_⟩
    have h3 : VR E.w (E.F C) (.ref k) x [v] := by
      have h0 : VRv E.w (E.F C) (.ref k) x v := h
      simpa [VRv, Ki.agg] using h0
    rcases h3 with ⟨e, _⟩ | ⟨y', b, o, ds, e, e1, e2, e3, e4⟩
    · have e : x = none := e
      rw [e] at h1; cases h1
    · have e : x = some y' := e
      rw [e] at h1; cases h1
      exact ⟨b, o, ds, by simpa using e1, e2, e3, e4⟩
  · exact ⟨_, hK, h⟩
theorem evalQ_ok {D : FuncId → Nat → Option Den} {P : Program} (hP : C.P = P) (hG : C.gl = T.gl) (hT : TyOk P T) (hD : DenOk P T.gl D) (h : RelE C S E a) (hq : ∀ id, q ≤ id → id < q + 8 → ¬ E.live id) {K : Dl → Option R}
    (hK : evalQ T D o (opv S.sl) S.rows S.box q K = some r) : ∃ δ, K δ = some r ∧ OpOk C S E q a o δ := by
  have hq0 : ¬ E.live q := hq q (Nat.le_refl _) (by omega)
  have hone : ∀ {x : Operand} {s : SV}, opv S.sl x = .one s → SVR C E s (a.eval x) := fun hx => eval_one h hx
  have hunl : ∀ {x : Operand} {s : SV}, unnlS (opv S.sl x) = .one s → SVR C E s (a.eval x) := fun {x s} hx => by
    have h1 := unnlS_ok (eval_ok h x)
    rw [hx] at h1
    exact h1
  cases ho : o.op <;> simp only [evalQ, ho] at hK
  case move x => exact ⟨_, hK, ok_pure h (fun w => by simp [execOp, ho]) (eval_ok h x)⟩
  case assign x =>
    split at hK
    · exact ⟨_, hK, ok_pure h (fun w => by simp [execOp, ho]) (eval_ok h x)⟩
    · split at hK
      · rename_i s hs
        obtain ⟨y, fz, g1, g2⟩ := rdK_ok (C := C) hK
        exact ⟨_, g1, ok_frz h (fun w => by simp [execOp, ho]) (g2 h (hone hs) (fun i hi => hi))⟩
      · cases hK
  case pick c x y =>
    split at hK
    · rename_i t hc
      have hcv : a.eval c = .bool t := VRv.bool (hone hc)
      split at hK
      · rename_i ht
        have ht' : t = true := ht
        subst ht'
        exact ⟨_, hK, ok_pure h (fun w => by simp [execOp, ho, hcv, asBool]) (eval_ok h x)⟩
      · rename_i ht
        have ht' : t = false := by cases t <;> simp_all
        subst ht'
        exact ⟨_, hK, ok_pure h (fun w => by simp [execOp, ho, hcv, asBool]) (eval_ok h y)⟩
    · cases hK
  case binOp op t x y yt =>
    split at hK
    · rename_i s1 s2 h1 h2
      subst hP
      obtain ⟨s, v, g1, g2, g3⟩ := binK_ok hT hK (hone h1) (hone h2)
      exact ⟨_, g1, ok_pure h (fun w => by simp only [execOp, ho, Sem.run_bind, g3 x y w, Result.andThen_ok]; rfl) g2⟩
    · cases hK
  case unOp op t x =>
    split at hK
    · rename_i s1 h1
      obtain ⟨s, v, g1, g2, g3⟩ := unK_ok hK P (hone h1)
      subst hP
      exact ⟨_, g1, ok_pure h (fun w => by simp [execOp, ho, g3]) g2⟩
    · cases hK
  case extract x i =>
    split at hK
    · rename_i vs hx
      split at hK
      · rename_i s hs
        have hv := eval_ok h x
        rw [hx] at hv
        obtain ⟨us, hu, hl, hR⟩ := hv
        have hi : i < us.length := by rw [hl]; exact (List.getElem?_eq_some_iff.1 hs).1
        exact ⟨_, hK, ok_pure h (v := us[i]) (fun w => by simp [execOp, ho, hu, Instr.extract, List.getElem?_eq_getElem hi]) (hR i s _ hs (List.getElem?_eq_getElem hi))⟩
      · cases hK
    · cases hK
  case nilCheck x =>
    obtain ⟨s', hK, hs⟩ := refK_ok hK (eval_ok h x)
    split at hK
    · obtain ⟨h1, h2, hv⟩ := hs
      exact ⟨_, hK, ok_pure h (v := a.eval x) (fun w => by simp [execOp, ho, hv]) ⟨h1, h2, hv⟩⟩
    · obtain ⟨h1, hv⟩ := hs
      exact ⟨_, hK, ok_pure h (v := a.eval x) (fun w => by simp [execOp, ho, hv]) ⟨h1, hv⟩⟩
    · have h2 := hs
      obtain ⟨b, off, ds, hv, _⟩ := h2
      exact ⟨_, hK, ok_pure h (v := a.eval x) (fun w => by simp [execOp, ho, hv]) hs⟩
    · have h2 := hs
      obtain ⟨_, g, n, c, _, hv, _⟩ := h2
      exact ⟨_, hK, ok_pure h (v := a.eval x) (fun w => by simp [execOp, ho, hv]) hs⟩
    · cases hK
  case load t x =>
    obtain ⟨s', hK, hs0⟩ := refK_ok hK (eval_ok h x)
    split at hK
    · rename_i k v
      split at hK
      · rename_i hk
        obtain ⟨b, off, ds, hv, hF, hvr, hc⟩ := hs0
        subst hP
        exact ⟨_, hK, ok_read h (v := mkV k ds) .sh (by rw [drops_nil]; exact VRv.of_cells hvr) (fun w hw => by
          have hl := load_cells (hT.kd t k hk) hvr.len (hc.mono (hw b hF))
          simp [execOp, ho, hv, hl])⟩
      · cases hK
    · rename_i b off
      split at hK
      · rename_i u hk hpt
        obtain ⟨g, i, hv, hF, hlv, hc⟩ := hs0
        have hone1 : T.one t = true := by unfold Tys.one; simp only [hk, hpt]
        subst hP
        exact ⟨_, hK, ok_read h (v := .pointer (some ⟨E.bb b, off, none⟩)) .sh (by rw [drops_nil]; exact ⟨hlv, rfl⟩) (fun w hw => by
          have hc' : w.cell? ⟨g, i, none⟩ = some (.pointer (some ⟨E.bb b, off, none⟩)) := by rw [cell_of_heap (hw g hF)]; exact hc
          simp [execOp, ho, hv, Instr.loadAt, Instr.sureAddr, loadVar, (one_size hT hone1 w).2, hc'])⟩
      · cases hK
    · rename_i b off
      split at hK
      · rename_i B hB
        split at hK
        · rename_i cs hcs
          obtain ⟨s, fz, v, g1, g2, g3⟩ := loadBox_ok hP hT h hB hcs hK
          have hv := hs0.2
          subst hP
          exact ⟨_, g1, ok_read h (.ob (.inr b)) g3 (fun w hw => by simp [execOp, ho, hv, g2 w (hw _ (h.boxes b B hB).1)])⟩
        · cases hK
      · cases hK
    · rename_i b off n sz i
      split at hK
      · rename_i B hB
        split at hK
        · rename_i n' k xs rest hcs
          split at hK
          · rename_i hn hsz
            have hn := Nat.eq_of_beq_eq_true hn
            have hsz := Nat.eq_of_beq_eq_true hsz
            subst hn; subst hsz
            split at hK
            · rename_i hk
              obtain ⟨_, hin, hv⟩ := hs0
              obtain ⟨v, g2, g3⟩ := loadAel_ok hP hT h hB hcs hk hin
              subst hP
              exact ⟨_, hK, ok_read h (.ob (.inr b)) (by rw [drops_nil]; exact g3) (fun w hw => by simp [execOp, ho, hv, g2 w (hw _ (h.boxes b B hB).1)])⟩
            · cases hK
          · cases hK
        · cases hK
      · cases hK
    · rename_i id sz i off
      split at hK
      · rename_i rr hrr
        split at hK
        · rename_i kt hsz hk
          have hsz' := Nat.eq_of_beq_eq_true hsz
          subst hsz'
          split at hK
          · rename_i y hy
            obtain ⟨hlv, g, n, c, e1, hv, hin⟩ := hs0
            rcases h.rows id rr hrr with ⟨_, e2⟩ | ⟨g', c', e2, _, _, e3, e4⟩
            · rw [e2] at e1; cases e1
            · rw [e2] at e1
              cases e1
              have hi : i < rr.xs.length := hin
              obtain ⟨ds, f1, f2⟩ := e3 i rr.xs[i] (List.getElem?_eq_getElem hi)
              subst hP
              have hx' : rr.xs.getD i rr.k.zero = rr.xs[i] := by simp [List.getD_eq_getElem?_getD, hi]
              rw [hx'] at hy
              obtain ⟨pre, d1, post, rfl, q1, q2⟩ := Ki.getO_ok hy f1
              refine ⟨_, hK, ok_read h (v := mkV kt d1) _ (by rw [drops_nil]; exact VRv.of_cells q2) (fun w hw => ?_)⟩
              have hblk : w.heap[g]? = E.w.heap[g]? := hw g (by
                by_cases hf : rr.fz = true
                · rw [if_pos hf] at e4; simp only [hf]; exact e4
                · have hf' : rr.fz = false := by simpa using hf
                  rw [if_neg hf] at e4; simp only [hf']; exact e4.1)
              have hd1 : CellsAt w g (i * rr.k.sz + off) d1 := fun j v hj => by
                have := (f2.mono hblk) (pre.length + j) v (by
                  have hjl := (List.getElem?_eq_some_iff.1 hj).1
                  rw [List.append_assoc, List.getElem?_append_right (by omega), Nat.add_sub_cancel_left, List.getElem?_append_left hjl]; exact hj)
                rw [q1, ← Nat.add_assoc] at this
                exact this
              have hl := load_cells (hT.kd t _ hk) q2.len hd1
              simp [execOp, ho, hv, hl]
          · cases hK
        · cases hK
      · cases hK
    · cases hK
  case fieldAddr s x f =>
    obtain ⟨s', hK, hs0⟩ := refK_ok hK (eval_ok h x)
    split at hK
    · rename_i k v
      split at hK
      · rename_i hk
        obtain ⟨k', x', v', g1, g2, g3⟩ := fieldAddr_ref hT hk hK hs0
        subst hP
        exact ⟨_, g1, ok_pure h (fun w => by simp [execOp, ho, g3]) g2⟩
      · cases hK
    · rename_i b off
      split at hK
      · rename_i l hl
        split at hK
        · rename_i d hd
          have hv := hs0
          have g3 := fun w => fieldAddr_ptr hT hl hd (E.bb b) off w
          subst hP
          exact ⟨_, hK, ok_pure h (fun w => by simp [execOp, ho, hv.2, g3]) ⟨hv.1, rfl⟩⟩
        · cases hK
      · cases hK
    · rename_i id sz i off
      split at hK
      · rename_i l hl
        split at hK
        · rename_i d hd
          obtain ⟨hlv, g, n, c, e1, hv, hin⟩ := hs0
          have g3 := fun w => fieldAddr_ptr hT hl hd g (i * sz + off) w
          subst hP
          exact ⟨_, hK, ok_pure h (v := .pointer (some ⟨g, i * sz + off + d, none⟩)) (fun w => by simp [execOp, ho, hv, g3]) ⟨hlv, g, n, c, e1, by rw [Nat.add_assoc], hin⟩⟩
        · cases hK
      · cases hK
    · cases hK
  case field s x f =>
    split at hK
    · rename_i k v hx
      split at hK
      · rename_i hk
        obtain ⟨k', x', v', g1, g2, g3⟩ := field_ok hT hk hK (w := E.w) (F := E.F C) (hone hx)
        subst hP
        exact ⟨_, g1, ok_pure h (fun w => by simp [execOp, ho, g3]) g2⟩
      · cases hK
    · cases hK
  case indexAddr t x i =>
    split at hK
    · rename_i b off ik n hx hi
      have hn : a.eval i = .int ik n := VRv.int (hone hi)
      split at hK
      · rename_i m k hk
        split at hK
        · rename_i h0
          split at hK
          · rename_i h1
            replace h0 : @LE.le Int _ 0 n := h0
            replace h1 : @LT.lt Int _ n ((m : Nat) : Int) := h1
            obtain ⟨hl, hv⟩ := hunl hx
            have g2 := fun w => indexAddr_arr hT hk h0 h1 ik (E.bb b) off w
            subst hP
            exact ⟨_, hK, ok_pure h (fun w => by simp [execOp, ho, hn, hv, g2]) ⟨hl, by omega, rfl⟩⟩
          · cases hK
        · cases hK
      · cases hK
    · rename_i m k xs ik n hx hi
      have hn : a.eval i = .int ik n := VRv.int (hone hi)
      split at hK
      · rename_i hk
        split at hK
        · rename_i h0
          split at hK
          · rename_i h1
            replace h0 : @LE.le Int _ 0 n := h0
            replace h1 : @LT.lt Int _ n ((m : Nat) : Int) := h1
            obtain ⟨b, off, hv, hr⟩ := ref_arr (hunl hx) (i := Int.toNat n) (by omega)
            have g2 := fun w => indexAddr_arr hT hk h0 h1 ik b off w
            subst hP
            exact ⟨_, hK, ok_pure h (fun w => by simp [execOp, ho, hn, hv, g2]) hr⟩
          · cases hK
        · cases hK
      · cases hK
    · rename_i k xs ik n hx hi
      have hn : a.eval i = .int ik n := VRv.int (hone hi)
      split at hK
      · rename_i hk
        split at hK
        · rename_i h0
          split at hK
          · rename_i h1
            obtain ⟨v', g1, g2⟩ := indexAddr_list hT hk (hunl hx) h0 h1 ik
            subst hP
            exact ⟨_, hK, ok_pure h (fun w => by simp [execOp, ho, hn, g2]) g1⟩
          · cases hK
        · cases hK
      · cases hK
    · rename_i id ik n hx hi
      have hn : a.eval i = .int ik n := VRv.int (hone hi)
      split at hK
      · rename_i rr hrr
        split at hK
        · rename_i hk
          split at hK
          · rename_i h0
            split at hK
            · rename_i h1
              obtain ⟨hl, hv⟩ := hunl hx
              rcases h.rows id rr hrr with ⟨e1, e2⟩ | ⟨g, c, e1, _⟩
              · rw [e1] at h1
                replace h1 : @LT.lt Int _ n ((0 : Nat) : Int) := h1
                replace h0 : @LE.le Int _ 0 n := h0
                omega
              · have g2 := fun w => indexAddr_row hT hk (hv.trans e1) h0 h1 ik w
                subst hP
                exact ⟨_, hK, ok_pure h (fun w => by simp [execOp, ho, hn, g2]) ⟨hl, g, _, c, e1, rfl, by replace h1 : @LT.lt Int _ n ((rr.xs.length : Nat) : Int) := h1; replace h0 : @LE.le Int _ 0 n := h0; omega⟩⟩
            · cases hK
          · cases hK
        · cases hK
      · cases hK
    · rename_i l ik n hx hi
      have hn : a.eval i = .int ik n := VRv.int (hone hi)
      split at hK
      · rename_i e he
        split at hK
        · rename_i h0
          split at hK
          · rename_i h1
            split at hK
            · rename_i b hb
              replace h0 : @LE.le Int _ 0 n := h0
              replace h1 : @LT.lt Int _ n ((List.length l : Nat) : Int) := h1
              obtain ⟨g, c, hv, _, hF, hc⟩ := hunl hx
              obtain ⟨hu, ii, z, hi2, hs1, _⟩ := hT.ps t e he
              obtain ⟨k1, k2⟩ := hc _ b hb
              subst hP
              have hs : ∀ w, (sizeOf e).run C.P w = .ok 1 w := fun w => by simp [sizeOf, typeInfo, hi2, hs1]
              exact ⟨_, hK, ok_pure h (v := .pointer (some ⟨g, Int.toNat n, none⟩)) (fun w => by simp [execOp, ho, hn, hv, Instr.indexAt, asIntOf, run_underlying hu, h0, h1, hs, add_at]) ⟨g, _, rfl, hF, k1, k2⟩⟩
            · cases hK
          · cases hK
        · cases hK
      · cases hK
    · rename_i g ik n hx hi
      have hn : a.eval i = .int ik n := VRv.int (hone hi)
      split at hK
      · rename_i gv hgv
        split at hK
        · rename_i m hm
          split at hK
          · rename_i hlen
            have hlen' := Nat.eq_of_beq_eq_true hlen
            split at hK
            · rename_i hk
              split at hK
              · rename_i h0
                split at hK
                · rename_i h1
                  replace h0 : @LE.le Int _ 0 n := h0
                  replace h1 : @LT.lt Int _ n ((m.1 : Nat) : Int) := h1
                  have hv : a.eval x = .pointer (some ⟨g, 0, none⟩) := hunl hx
                  obtain ⟨e1, e2⟩ := h.glob g gv (by rw [hG]; exact hgv)
                  have hlt : Int.toNat n < gv.xs.length := by omega
                  obtain ⟨ds, f1, f2⟩ := e2 (Int.toNat n) gv.xs[Int.toNat n] (List.getElem?_eq_getElem hlt)
                  have hxx : gv.xs.getD (Int.toNat n) gv.k.zero = gv.xs[Int.toNat n] := by simp [List.getD_eq_getElem?_getD, hlt]
                  have hu := hT.ar t m hm
                  subst hP
                  refine ⟨_, hK, ok_pure h (v := .pointer (some ⟨g, Int.toNat n * gv.k.sz, none⟩)) (fun w => ?_) ⟨g, _, ds, rfl, e1, by rw [hxx]; exact f1, f2⟩⟩
                  have hs := (hT.kd m.2 _ hk).size w
                  simp [execOp, ho, hn, hv, Instr.indexAt, asIntOf, run_underlying hu, Instr.sureAddr, h0, h1, hs, add_at]
                · cases hK
              · cases hK
            · cases hK
          · cases hK
        · cases hK
      · cases hK
    · cases hK
  case index t x i =>
    split at hK
    · rename_i s ik n hx hi
      have hn : a.eval i = .int ik n := VRv.int (hone hi)
      have hs : a.eval x = .string s := VRv.str (hone hx)
      split at hK
      · rename_i hk
        have hu : P.underlying t = some .string := (hT.kd t _ hk).2
        split at hK
        · rename_i h0
          split at hK
          · rename_i h1
            replace h0 : @LE.le Int _ 0 n := h0
            replace h1 : @LT.lt Int _ n ((ByteArray.size s : Nat) : Int) := h1
            have hlt : Int.toNat n < ByteArray.size s := by omega
            have g2 : ∀ w, _ := fun w => by
              have g2 := run_index_string (P := P) w t s ik n hu
              rw [dif_pos ⟨h0, h1⟩, sbytes_at s _ hlt] at g2
              exact g2
            subst hP
            exact ⟨_, hK, ok_pure h (fun w => by simp [execOp, ho, hn, hs, g2]) (VRv.of_int E.w (E.F C) _ _)⟩
          · cases hK
        · cases hK
      · cases hK
    · rename_i m k xs ik n hx hi
      have hn : a.eval i = .int ik n := VRv.int (hone hi)
      split at hK
      · rename_i hk
        split at hK
        · rename_i h0
          split at hK
          · rename_i h1
            replace h0 : @LE.le Int _ 0 n := h0
            replace h1 : @LT.lt Int _ n ((m : Nat) : Int) := h1
            obtain ⟨v', g1, g2⟩ := index_arr hT hk (hone hx) h0 h1 ik
            subst hP
            exact ⟨_, hK, ok_pure h (fun w => by simp [execOp, ho, hn, g2]) g1⟩
          · cases hK
        · cases hK
      · cases hK
    · cases hK
  case slice t x lo hi mx =>
    cases mx with
    | some m => simp only at hK; cases hK
    | none =>
      simp only at hK
      split at hK
      · rename_i k xs hx
        split at hK
        · rename_i hk
          obtain ⟨l, m, g1, g2, g3, g4⟩ := cutK_ok (C := C) (E := E) hK (optR h lo) (optR h hi)
          obtain ⟨e, hu, hs, hp, _⟩ := elem_size hT hk E.w
          obtain ⟨A, c, hv, hl, hm, hh⟩ := list_cells (hunl hx)
          have hrun : ∀ w, (execOp a.eval o).run P w = .ok (.value (.slice (if c = l then A else A.map (·.add (l * k.sz))) (m - l) (c - l))) w := fun w => by
            simp [execOp, ho, hv, Instr.sliceAt, run_underlying hu, Instr.slice, g4 P true c w hl, hs]
          subst hP
          refine ⟨_, g1, ok_pure h hrun ?_⟩
          rcases hh with ⟨rfl, _⟩ | ⟨b, off, cs, rfl, hF, hE, hc⟩
          · have hm0 : m = 0 := by simpa using g3
            subst hm0
            have hl0 : l = 0 := by omega
            subst hl0
            exact VRv.of_nil _ _ _ _ _ (by omega)
          · exact cut_list hF hE hc hm hl g2 g3
        · cases hK
      · rename_i s hx
        split at hK
        · rename_i hk
          obtain ⟨l, m, g1, g2, g3, g4⟩ := cutK_ok (C := C) (E := E) hK (optR h lo) (optR h hi)
          have hu : P.underlying t = some .string := (hT.kd t _ hk).2
          have hv : a.eval x = .string s := VRv.str (hunl hx)
          have hrun : ∀ w, (execOp a.eval o).run P w = .ok (.value (.string (s.extract l m))) w := fun w => by
            simp [execOp, ho, hv, Instr.sliceAt, run_underlying hu, Instr.slice, g4 P false s.size w (Nat.le_refl _)]
          subst hP
          exact ⟨_, g1, ok_pure h hrun (VRv.of_str E.w (E.F C) _)⟩
        · cases hK
      · rename_i id hx
        split at hK
        · rename_i rr hrr
          split at hK
          · rename_i hk
            split at hK
            · rename_i hkp
              obtain ⟨l, m, g1, g2, g3, g4⟩ := cutK_ok (C := C) (E := E) hK (optR h lo) (optR h hi)
              obtain ⟨e, hu, hs, hp, _⟩ := elem_size hT hk E.w
              have hsh := row_shared h hrr (l := [id]) (by simp)
              rw [← (hunl hx).2] at hsh
              obtain ⟨A, c, hv, hl, hm, hh⟩ := list_cells (E := E.drops [id]) (C := C) hsh
              have hrun : ∀ w, (execOp a.eval o).run P w = .ok (.value (.slice (if c = l then A else A.map (·.add (l * rr.k.sz))) (m - l) (c - l))) w := fun w => by
                simp [execOp, ho, hv, Instr.sliceAt, run_underlying hu, Instr.slice, g4 P true c w hl, hs]
              subst hP
              refine ⟨_, g1, ok_frz h hrun ?_⟩
              rcases hh with ⟨h0, _⟩ | ⟨b, off, cs, rfl, hF, hE, hc⟩
              · rw [h0] at g3 hv
                have hm0 : m = 0 := by simpa using g3
                subst hm0
                have hl0 : l = 0 := by omega
                subst hl0
                rw [h0]
                exact VRv.of_nil _ _ _ _ _ (by omega)
              · exact cut_list hF hE hc hm hl g2 g3
            · rename_i hkp
              split at hK
              · rename_i hf
                obtain ⟨m, g1, g3, g4⟩ := cut0_ok (C := C) (E := E) hK (optR h hi)
                obtain ⟨e, hu, hs, hp, _⟩ := elem_size hT hk E.w
                have hxv := (hunl hx).2
                subst hP
                rcases h.rows id rr hrr with ⟨f1, f2⟩ | ⟨g, c, f1, f2, f3, _⟩
                · have hm0 : m = 0 := by rw [f1] at g3; simpa using g3
                  subst hm0
                  obtain ⟨k1, k2⟩ := keep_core h hrr hf hq0 (m := 0) (Nat.zero_le _) (v' := .slice none 0 0) (.inl ⟨f2, rfl, f1⟩)
                  refine ⟨_, g1, ok_run (v := .slice none 0 0) (w' := E.w) ?_ ⟨E.app id q (.slice none 0 0) E.w, rfl, k1, ⟨.inl rfl, by show _ = (if q = q then _ else _); rw [if_pos rfl]⟩, fun id hid => ?_, k2 _⟩⟩
                  · rw [f1] at g4
                    have g5 := g4 C.P true 0 E.w (Nat.le_refl _)
                    simp only [List.length_nil] at g5
                    simp [execOp, ho, hxv, f2, Instr.sliceAt, run_underlying hu, Instr.slice, g5, hs]
                  · rcases hid with rfl | hid
                    · exact .inr ⟨Nat.le_refl _, by omega⟩
                    · exact .inl hid
                · obtain ⟨k1, k2⟩ := keep_core h hrr hf hq0 g3 (v' := .slice (some ⟨g, 0, none⟩) m c) (.inr ⟨g, _, c, f1, rfl⟩)
                  refine ⟨_, g1, ok_run (v := .slice (some ⟨g, 0, none⟩) m c) (w' := E.w) ?_ ⟨E.app id q (.slice (some ⟨g, 0, none⟩) m c) E.w, rfl, k1, ⟨.inl rfl, by show _ = (if q = q then _ else _); rw [if_pos rfl]⟩, fun id hid => ?_, k2 _⟩⟩
                  · simp [execOp, ho, hxv, f1, Instr.sliceAt, run_underlying hu, Instr.slice, g4 C.P true c E.w f2, hs, add_at]
                  · rcases hid with rfl | hid
                    · exact .inr ⟨Nat.le_refl _, by omega⟩
                    · exact .inl hid
              · cases hK
          · cases hK
        · cases hK
      · rename_i hx
        split at hK
        · rename_i k hk
          obtain ⟨l, m, g1, g2, g3, g4⟩ := cutK_ok (C := C) (E := E) hK (optR h lo) (optR h hi)
          obtain ⟨e, hu, hs, hp, _⟩ := elem_size hT hk E.w
          have hm0 : m = 0 := by omega
          subst hm0
          have hl0 : l = 0 := by omega
          subst hl0
          have hv : a.eval x = .slice none 0 0 := hunl hx
          subst hP
          exact ⟨_, g1, ok_pure h (v := .slice none 0 0) (fun w => by simp [execOp, ho, hv, Instr.sliceAt, run_underlying hu, Instr.slice, g4 C.P true 0 w (Nat.le_refl _), hs]) rfl⟩
        · cases hK
      · rename_i g hx
        split at hK
        · rename_i gv md hgv hmd
          split at hK
          · rename_i hlen hbig
            have hlen := Nat.eq_of_beq_eq_true hlen
            have hbig := Nat.le_of_ble_eq_true hbig
            split at hK
            · rename_i hk
              obtain ⟨l, m, g1, g2, g3, g4⟩ := cutK_ok (C := C) (E := E) hK (optR h lo) (optR h hi)
              have hv : a.eval x = .pointer (some ⟨g, 0, none⟩) := hunl hx
              obtain ⟨e1, e2⟩ := h.glob g gv (by rw [hG]; exact hgv)
              obtain ⟨cs, f1, f2⟩ := ER.gather (w := E.w) (F := E.F C) (b := g) (o := 0) (xs := gv.xs) (fun i x hx => by
                obtain ⟨ds, k1, k2⟩ := e2 i x hx
                exact ⟨ds, k1, by simpa using k2⟩)
              have hu := hT.ar t md hmd
              have hs := (hT.kd md.2 _ hk).size
              have hrun : ∀ w, (execOp a.eval o).run P w = .ok (.value (.slice (if gv.xs.length = l then some ⟨g, 0, none⟩ else (some (⟨g, 0, none⟩ : Addr)).map (·.add (l * gv.k.sz))) (m - l) (gv.xs.length - l))) w := fun w => by
                have g5 := g4 P false gv.xs.length w (Nat.le_refl _)
                rw [← hlen] at g5 ⊢
                simp [execOp, ho, hv, Instr.sliceAt, run_underlying hu, Instr.sureAddr, g5, hs w]
                split <;> rfl
              subst hP
              exact ⟨_, g1, ok_pure h hrun (cut_list e1 f1 f2 (by unfold maxLen; omega) (Nat.le_refl _) g2 g3)⟩
            · cases hK
          · cases hK
        · cases hK
      · rename_i n k xs hx
        split at hK
        · rename_i hbig
          have hbig := Nat.le_of_ble_eq_true hbig
          split at hK
          · rename_i hk
            obtain ⟨l, m, g1, g2, g3, g4⟩ := cutK_ok (C := C) (E := E) hK (optR h lo) (optR h hi)
            obtain ⟨b, off, ds, hv, e1, e2, e3⟩ := hunl hx
            obtain ⟨hl, hE⟩ : List.length xs = n ∧ ERl (fun x c => VR E.w (E.F C) k x c) xs ds := e2
            obtain ⟨e, hu, hke, hp, _⟩ := arr_of hT hk
            have hrun : ∀ w, (execOp a.eval o).run P w = .ok (.value (.slice (if List.length xs = l then some ⟨b, off, none⟩ else (some (⟨b, off, none⟩ : Addr)).map (·.add (l * k.sz))) (m - l) (List.length xs - l))) w := fun w => by
              have g5 := g4 P false n w (Nat.le_refl _)
              rw [hl]
              simp [execOp, ho, hv, Instr.sliceAt, run_underlying hu, Instr.sureAddr, g5, hke.size w]
              split <;> rfl
            subst hP
            rw [← hl] at g3 hbig
            exact ⟨_, g1, ok_pure h hrun (cut_list e1 (ER_iff.2 hE) e3 (by unfold maxLen; omega) (Nat.le_refl _) g2 g3)⟩
          · cases hK
        · cases hK
      · rename_i k xs hx
        split at hK
        · rename_i hk
          obtain ⟨l, m, g1, g2, g3, g4⟩ := cutK_ok (C := C) (E := E) hK (optR h lo) (optR h hi)
          obtain ⟨e, hu, hs, hp, _⟩ := elem_size hT hk E.w
          obtain ⟨A, c, hv, hl, hm, hh⟩ := list_cells (hunl hx).1
          have hrun : ∀ w, (execOp a.eval o).run P w = .ok (.value (.slice (if c = l then A else A.map (·.add (l * k.sz))) (m - l) (c - l))) w := fun w => by
            simp [execOp, ho, hv, Instr.sliceAt, run_underlying hu, Instr.slice, g4 P true c w hl, hs]
          subst hP
          refine ⟨_, g1, ok_pure h hrun ?_⟩
          rcases hh with ⟨rfl, _⟩ | ⟨b, off, cs, rfl, hF, hE, hc⟩
          · have hm0 : m = 0 := by simpa using g3
            subst hm0
            have hl0 : l = 0 := by omega
            subst hl0
            exact VRv.of_nil _ _ _ _ _ (by omega)
          · exact cut_list hF hE hc hm hl g2 g3
        · cases hK
      · cases hK
  case convert s d x =>
    split at hK
    · rename_i ik n k0 k hx hs hd
      have hv : a.eval x = .int ik n := VRv.int (hone hx)
      have hus : P.underlying s = some (.int k0) := (hT.kd s _ hs).2
      have hud : P.underlying d = some (.int k) := (hT.kd d _ hd).2
      subst hP
      rw [wr_eq] at hK
      exact ⟨_, hK, ok_pure h (v := .int k (k.wrap n)) (fun w => by simp [execOp, ho, hv, convert, run_underlying hus, run_underlying hud, Conv.intToInt]) (VRv.of_int E.w (E.F C) _ _)⟩
    · rename_i b hx hs hd
      have hv : a.eval x = .string b := VRv.str (hone hx)
      split at hK
      · rename_i hlim
        have hus : P.underlying s = some .string := (hT.kd s _ hs).2
        refine ⟨_, hK, toBytes_ok hP hT h ?_ hd hus hv ho⟩
        unfold lim at hlim
        unfold maxLen
        omega
      · cases hK
    · rename_i id hx hs hd
      split at hK
      · rename_i rr hb hrr
        have hsd := Nat.eq_of_beq_eq_true hb
        subst hsd
        split at hK
        · rename_i hf hrk hxs
          exact ⟨_, hK, mark_ok hP hT h hrr hf (by rw [hxs]; exact List.cons_ne_nil _ _) (of_decide_eq_true hrk) hs (hone hx) ho⟩
        · cases hK
      · cases hK
    · rename_i xs hx hs hd
      have hvx : VRv E.w (E.F C) (.list (.int .u8)) xs (a.eval x) := hone hx
      subst hP
      exact ⟨_, hK, ok_read h (v := .string (strOf xs)) .sh (by rw [drops_nil]; exact VRv.of_str E.w (E.F C) _) (fun w hw => by
        have hr := toString_ok hT hs hd (hvx.mono (w' := w) (F' := E.F C) (fun b hb => ⟨hb, hw b hb⟩))
        simp only [execOp, ho, Sem.run_bind]; rw [hr]; rfl)⟩
    · rename_i s1 _ hx hs hd
      obtain ⟨xs, fz, g1, g2⟩ := rdK_ok (C := C) hK
      have hv := g2 h (hone hx) (fun i hi => hi)
      have hr := toString_ok hT hs hd hv
      subst hP
      exact ⟨_, g1, ok_eff h (v := .string (strOf xs)) (by simp only [execOp, ho, Sem.run_bind]; rw [show E.w = (E.drops fz).w from rfl, hr]; rfl) (VRv.of_str E.w (E.F C) _)⟩
    · cases hK
  case build t ps =>
    split at hK
    · rename_i k1 k2 hk
      obtain ⟨x, fz, g1, g2⟩ := build_ok (q := q) hP hT h hk hK ho
      exact ⟨_, g1, g2⟩
    · rename_i n k hk
      obtain ⟨x, fz, g1, g2⟩ := build_arr hP hT h hk (K := fun x fz => K { v := .one (.val (.arr n k) x), fz := fz, rd := .pure }) hK ho
      exact ⟨_, g1, g2⟩
    · cases hK
  case buildSlice t n ps =>
    split at hK
    · rename_i k e hk he
      obtain ⟨xs, fz, g1, g2⟩ := partsK_ok (C := C) h rfl hK
      split at g1
      · rename_i hc
        rw [Bool.and_eq_true] at hc
        have hn : xs.length = n := Nat.eq_of_beq_eq_true hc.1
        have hb : n * k.sz ≤ 16777216 := Nat.le_of_ble_eq_true hc.2
        obtain ⟨cs, e1, e2⟩ := g2 fz (fun i hi => hi)
        exact ⟨_, g1, buildSlice_ok hP hT h hk he hn hb e1 (fun pre mid hp hm => by
          have hp0 : pre = [] := List.eq_nil_of_length_eq_zero (by simpa using hp)
          subst hp0
          exact e2 [] mid (by simp) hm) hq0 ho⟩
      · cases g1
    · split at hK
      · rename_i e l he hl
        split at hK
        · rename_i g1 g2 g3
          exact ⟨_, hK, buildPtrs_ok hP hT h he hl (Nat.eq_of_beq_eq_true g1) (by simpa [Nat.blt_eq] using g2) (Nat.le_of_ble_eq_true g3) ho⟩
        · cases hK
      · cases hK
    · cases hK
  case makeSlice t l c =>
    split at hK
    · rename_i n k e hs hl hk he
      split at hK
      · rename_i h0
        split at hK
        · rename_i h1
          have hv : a.eval l = .int .i64 n := VRv.int (hone hl)
          have hv2 : a.eval c = .int .i64 n := by
            rw [← hv]
            unfold sameOp at hs
            split at hs
            · have := Nat.eq_of_beq_eq_true hs
              subst this; rfl
            · rename_i k1 x1 k2 x2
              simp only [Bool.and_eq_true, decide_eq_true_eq] at hs
              rw [hs.1, hs.2]
            · cases hs
          exact ⟨_, hK, makeSlice_ok hP hT h hk he hv hv2 h0 h1 hq0 ho⟩
        · cases hK
      · cases hK
    · cases hK
  case alloc e =>
    split at hK
    · rename_i cs hz
      exact ⟨_, hK, alloc_ok hP hT h hz hq0 ho⟩
    · cases hK
  case box e x =>
    split at hK
    · rename_i k v hx
      have := box_ok h hx (by simp) (fun id e => by simp at e) hq0 ho
      exact ⟨_, hK, this⟩
    · rename_i hx
      have := box_ok h hx (by simp) (fun id e => by simp at e) hq0 ho
      exact ⟨_, hK, this⟩
    · rename_i b off hx
      have := box_ok h hx (by simp) (fun id e => by simp at e) hq0 ho
      exact ⟨_, hK, this⟩
    · rename_i id hx
      split at hK
      · rename_i rr hrr
        have := box_ok h hx (by simp) (fun id' e => by cases e; rw [hrr]; rfl) hq0 ho
        exact ⟨_, hK, this⟩
      · cases hK
    · cases hK
  case makeFunc f first caps =>
    split at hK
    · rename_i fn
      split at hK
      · rename_i cs hf hc
        refine ⟨_, hK, ok_pure h (v := .func (.func fn) #[] (caps.map a.eval)) (by
          have : first = #[] := by cases first; simp_all
          subst this
          simp [execOp, ho, Instr.makeFunc]) ⟨(caps.toList.map a.eval), by apply congrArg; apply Array.ext'; simp, ones_ok hc (by simp) (fun i s v e1 e2 => ?_)⟩⟩
        rw [List.getElem?_map] at e1 e2
        cases hi : caps.toList[i]? with
        | none => rw [hi] at e1; simp at e1
        | some x =>
          rw [hi] at e1 e2
          simp only [Option.map_some, Option.some.injEq] at e1 e2
          subst e1; subst e2
          exact eval_ok h x
      · cases hK
    · cases hK
  case call c =>
    split at hK
    · rename_i hc
      split at hK
      · rename_i x t hx ht
        have hargs : c.args = #[x] := by cases hca : c.args; simp_all
        have htys : c.argTypes = #[t] := by cases hca : c.argTypes; simp_all
        split at hK
        · rename_i s hs hk
          have hv : a.eval x = .string s := VRv.str (hone hs)
          have hu : P.underlying t = some .string := (hT.kd t _ hk).2
          subst hP
          exact ⟨_, hK, ok_pure h (v := .int .i64 (s.size : Int)) (fun w => by simp [execOp, ho, resolve, hc, hargs, htys, invoke, builtin, hv, Builtin.len_, run_underlying hu, goInt]) (VRv.of_int E.w (E.F C) _ _)⟩
        · rename_i l hs hk
          split at hK
          · rename_i e he
            obtain ⟨g, cc, hv, _⟩ := hone hs
            have hu := (hT.ps t e he).1
            subst hP
            exact ⟨_, hK, ok_pure h (v := .int .i64 ((List.length l : Nat) : Int)) (fun w => by simp [execOp, ho, resolve, hc, hargs, htys, invoke, builtin, hv, Builtin.len_, run_underlying hu, goInt]) (VRv.of_int E.w (E.F C) _ _)⟩
          · cases hK
        · rename_i s k hs hk
          obtain ⟨n, g1, A, cc, hv⟩ := lenK_ok hT h (hone hs) hK
          obtain ⟨e, hu, _⟩ := elem_size hT hk E.w
          subst hP
          exact ⟨_, g1, ok_pure h (v := .int .i64 (n : Int)) (fun w => by simp [execOp, ho, resolve, hc, hargs, htys, invoke, builtin, hv, Builtin.len_, run_underlying hu, goInt]) (VRv.of_int E.w (E.F C) _ _)⟩
        · cases hK
      · cases hK
    · rename_i hc
      split at hK
      · rename_i x y t u hx ht
        have hargs : c.args = #[x, y] := by cases hca : c.args; simp_all
        have htys : c.argTypes = #[t, u] := by cases hca : c.argTypes; simp_all
        split at hK
        · rename_i id s hs1 hs2
          split at hK
          · rename_i rr hrr
            split at hK
            · rename_i hf hsz
              split at hK
              · rename_i hk
                obtain ⟨ys, fz, hK1, hy⟩ := rdK_ok (C := C) hK
                split at hK1
                · cases hK1
                · rename_i hfz
                  have hyv := hy h (hone hs2) (fun i hi => hi)
                  have hv1 : a.eval x = E.rv id := (hone hs1).2
                  obtain ⟨w', g1, g2, g3⟩ := copy_core hP hT (h.frs (l := fz)) (u := u) (rows_frs hrr hfz) hf hk (Nat.eq_of_beq_eq_true hsz) hyv o.type
                  refine ⟨_, hK1, ok_run (w' := w') (v := goInt (((if ys.length < rr.xs.length then ys.length else rr.xs.length) : Nat) : Int)) ?_ ⟨{ E.drops fz with w := w' }, rfl, ?_, VRv.of_int w' (Env.F C { E.drops fz with w := w' }) _ _, fun j hj => .inl hj, (Fr.drops h fz _).trans (g3 fz)⟩⟩
                  · subst hP
                    have g1' : (Builtin.copy_ #[t, u] o.type #[a.eval x, a.eval y]).run C.P E.w = .ok (goInt (((if ys.length < rr.xs.length then ys.length else rr.xs.length) : Nat) : Int)) w' := by rw [hv1]; exact g1
                    simp [execOp, ho, resolve, hc, hargs, htys, invoke, builtin, g1']
                  · show RelE C ((((S.frs fz).kill id)).newRow id _) _ a
                    rw [kill_new]
                    exact g2
              · cases hK
            · cases hK
          · cases hK
        · cases hK
      · cases hK
    · rename_i hc
      split at hK
      · rename_i x t hx ht
        have hargs : c.args = #[x] := by cases hca : c.args; simp_all
        have htys : c.argTypes = #[t] := by cases hca : c.argTypes; simp_all
        split at hK
        · rename_i k hs hk
          have hv : a.eval x = .slice none 0 0 := hone hs
          obtain ⟨e, hu, _⟩ := elem_size hT hk E.w
          subst hP
          exact ⟨_, hK, ok_pure h (v := .int .i64 (0 : Int)) (fun w => by simp [execOp, ho, resolve, hc, hargs, htys, invoke, builtin, hv, Builtin.cap_, run_underlying hu, goInt]) (VRv.of_int E.w (E.F C) _ _)⟩
        · cases hK
      · cases hK
    · rename_i hc
      split at hK
      · rename_i k x k' y hxy
        have hargs : ∃ u v, c.args = #[u, v] ∧ opv S.sl u = .one (.val (.int k) x) ∧ opv S.sl v = .one (.val (.int k') y) := by
          cases hca : c.args with
          | mk l =>
            rw [hca] at hxy
            rcases l with _ | ⟨u, _ | ⟨v, _ | ⟨z, l⟩⟩⟩
            · simp at hxy
            · simp at hxy
            · simp at hxy; exact ⟨u, v, rfl, hxy.1, hxy.2⟩
            · simp at hxy
        obtain ⟨u, v, hargs, hu, hv⟩ := hargs
        have hu' : a.eval u = .int k x := VRv.int (hone hu)
        have hv' : a.eval v = .int k' y := VRv.int (hone hv)
        split at hK
        · rename_i hkk
          subst hkk
          exact ⟨_, hK, ok_pure h (v := .int k (if @LT.lt Int _ y x then y else x)) (fun w => by simp [execOp, ho, resolve, hc, hargs, invoke, builtin, hu', hv', Builtin.min_, Builtin.min2]) (VRv.of_int E.w (E.F C) _ _)⟩
        · cases hK
      · cases hK
    · rename_i hc
      split at hK
      · rename_i k x k' y hxy
        have hargs : ∃ u v, c.args = #[u, v] ∧ opv S.sl u = .one (.val (.int k) x) ∧ opv S.sl v = .one (.val (.int k') y) := by
          cases hca : c.args with
          | mk l =>
            rw [hca] at hxy
            rcases l with _ | ⟨u, _ | ⟨v, _ | ⟨z, l⟩⟩⟩
            · simp at hxy
            · simp at hxy
            · simp at hxy; exact ⟨u, v, rfl, hxy.1, hxy.2⟩
            · simp at hxy
        obtain ⟨u, v, hargs, hu, hv⟩ := hargs
        have hu' : a.eval u = .int k x := VRv.int (hone hu)
        have hv' : a.eval v = .int k' y := VRv.int (hone hv)
        split at hK
        · rename_i hkk
          subst hkk
          exact ⟨_, hK, ok_pure h (v := .int k (if @LT.lt Int _ x y then y else x)) (fun w => by simp [execOp, ho, resolve, hc, hargs, invoke, builtin, hu', hv', Builtin.max_, Builtin.max2]) (VRv.of_int E.w (E.F C) _ _)⟩
        · cases hK
      · cases hK
    · rename_i f hc
      split at hK
      · rename_i fn caps hf
        split at hK
        · rename_i d hd
          obtain ⟨key, hd⟩ := pickD_ok hd
          exact callK_ok hP hG hD h hq hc hf hd hK ho
        · cases hK
      · cases hK
    · cases hK
  all_goals cases hK
end
end Go.Proofs.YtlioalaehkohlaaDoor.Vm
