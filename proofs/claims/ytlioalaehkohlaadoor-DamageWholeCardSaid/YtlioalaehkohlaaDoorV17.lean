/- A function that the machine runs answers so. Conditions: as each theorem states them. -/
import Derived.Test.YtlioalaehkohlaaDoorVD
namespace Go.Proofs.YtlioalaehkohlaaDoor.Vm
open Go Go.RowKit
set_option linter.unusedVariables false
set_option linter.unusedSimpArgs false
/-- results that lie in a variable are read; the i-th temporary beyond the function's own is theirs -/
def cellsK {R : Type} (T : Tys) : List ResultVar → Nat → St → (St → Option R) → Option R
  | [], _, S, K => K S
  | .tmp _ :: r, i, S, K => cellsK T r (i + 1) S K
  | .cell a t :: r, i, S, K => match S.sl a with
    | .one (.ptr b o) => match S.box b with
      | some B => match dropC B.cs o with
        | some cs => loadK T S.rows t cs fun s fz => cellsK T r (i + 1) ((S.frs fz).set i (.one s)) K
        | none => none
      | none => none
    | _ => none
def resIx : List ResultVar → Nat → List Nat
  | [], _ => []
  | .tmp t :: r, i => t :: resIx r (i + 1)
  | .cell _ _ :: r, i => i :: resIx r (i + 1)
def resLt (n : Nat) : List ResultVar → Bool
  | [] => true
  | .tmp t :: r => Nat.blt t n && resLt n r
  | .cell a _ :: r => Nat.blt a n && resLt n r
/-- what is left at a function's end -/
def retK {R : Type} (T : Tys) (rs : List ResultVar) (n : Nat) (L : List (Nat × CS)) (fin : CSs.den L → R) (o : Out) (S : St) : Option R :=
  match o with
  | .exit _ => none
  | _ => cellsK T rs n S fun S => match rdH L S with
    | some y => some (fin y)
    | none => none
/-- a function's temporaries; the arguments that lead somewhere are not laid anew -/
def nsOf (fn : Func) (lin lout : List (Nat × CS)) : NS := ⟨fn.ntmps, (lin.map Prod.fst).filter fun t => (lout.map Prod.fst).contains t⟩
def topSV : SL → List SV
  | .one s => [s]
  | .fn _ ss => .nil :: ss
  | .tup _ => []
/-- where what came out is what was handed in -/
def sameAt (m : Nat ⊕ Nat) (j : Nat) : List SV → List SV → Bool
  | .row i :: ss, .row j' :: ss' => (match m with | .inl i' => Nat.beq i i' && Nat.beq j j' | .inr _ => false) || sameAt m j ss ss'
  | .ptr i 0 :: ss, .ptr j' 0 :: ss' => (match m with | .inr i' => Nat.beq i i' && Nat.beq j j' | .inl _ => false) || sameAt m j ss ss'
  | _ :: ss, _ :: ss' => sameAt m j ss ss'
  | _, _ => false
def mtOk1 (ar : List Nat) (l l' : List (Nat × SL)) (m : Nat ⊕ Nat) (j : Nat) : Bool := ar.any fun t => sameAt m j (topSV (slAt l t)) (topSV (slAt l' t))
def mtOk (ar : List Nat) (l l' : List (Nat × SL)) : List (Option (Nat ⊕ Nat)) → Nat → Bool
  | [], _ => true
  | none :: r, j => mtOk ar l l' r (j + 1)
  | some m :: r, j => mtOk1 ar l l' m j && mtOk ar l l' r (j + 1)
theorem mtOk_at {ar : List Nat} {l l' : List (Nat × SL)} : ∀ {mt : List (Option (Nat ⊕ Nat))} {j0 : Nat}, mtOk ar l l' mt j0 = true → ∀ j m, mtAt mt j = some m → mtOk1 ar l l' m (j0 + j) = true
  | [], j0, h, j, m, hm => by simp [mtAt] at hm
  | none :: r, j0, h, 0, m, hm => by simp [mtAt] at hm
  | none :: r, j0, h, j + 1, m, hm => by
    have := mtOk_at (mt := r) (j0 := j0 + 1) h j m hm
    rwa [show j0 + 1 + j = j0 + (j + 1) by omega] at this
  | some m0 :: r, j0, h, 0, m, hm => by
    simp only [mtOk, Bool.and_eq_true] at h
    have : m0 = m := by simpa [mtAt] using hm
    subst this
    exact h.1
  | some m0 :: r, j0, h, j + 1, m, hm => by
    simp only [mtOk, Bool.and_eq_true] at h
    have := mtOk_at (mt := r) (j0 := j0 + 1) h.2 j m hm
    rwa [show j0 + 1 + j = j0 + (j + 1) by omega] at this
theorem sameAt_ok {C C' : Ctx} {E E' : Env} {m : Nat ⊕ Nat} {j : Nat} : ∀ {ss ss' : List SV} {vs : List Value}, sameAt m j ss ss' = true → SVsR C E ss vs → SVsR C' E' ss' vs → (∀ i, m = .inl i → E'.rv j = E.rv i) ∧ (∀ i, m = .inr i → E'.bb j = E.bb i)
  | [], ss', vs, h, h1, h2 => by simp [sameAt] at h
  | s :: ss, [], vs, h, h1, h2 => by cases s <;> simp [sameAt] at h
  | s :: ss, s' :: ss', vs, h, h1, h2 => by
    obtain ⟨u, us, rfl, p1, p2⟩ := svs_uncons h1
    obtain ⟨u', us', e, q1, q2⟩ := svs_uncons h2
    cases e
    have rest : sameAt m j ss ss' = true → _ := fun h => sameAt_ok h p2 q2
    unfold sameAt at h
    split at h
    · rename_i i ss1 j' ss2 e1 e2
      cases e1; cases e2
      rw [Bool.or_eq_true] at h
      rcases h with h | h
      · split at h
        · rename_i i'
          rw [Bool.and_eq_true] at h
          have ei := Nat.eq_of_beq_eq_true h.1
          have ej := Nat.eq_of_beq_eq_true h.2
          subst ei; subst ej
          exact ⟨fun i hi => (by cases hi; exact q1.2.symm.trans p1.2), fun i hi => (by cases hi)⟩
        · cases h
      · exact rest h
    · rename_i i ss1 j' ss2 e1 e2
      cases e1; cases e2
      rw [Bool.or_eq_true] at h
      rcases h with h | h
      · split at h
        · rename_i i'
          rw [Bool.and_eq_true] at h
          have ei := Nat.eq_of_beq_eq_true h.1
          have ej := Nat.eq_of_beq_eq_true h.2
          subst ei; subst ej
          refine ⟨fun i hi => (by cases hi), fun i hi => ?_⟩
          cases hi
          have := q1.2.symm.trans p1.2
          injection this with this
          injection this with this
          injection this
        · cases h
      · exact rest h
    · rename_i e1 e2
      cases e1; cases e2
      exact rest h
    · cases h
section
variable {P : Program} {T : Tys} {D : FuncId → Nat → Option Den} {H : Hints} {C : Ctx} {S : St} {E : Env} {a : Act}
def resG (tmps : Array Value) : ResultVar → Sem Value := fun x => match x with | .tmp t => pure (tmps.getD t undef) | .cell a t => do loadVar t (← asAddr (tmps.getD a undef))
/-- The same temporaries, in another frame. -/
theorem RelE.act {n' : NS} {ag' : Nat → Value} {a' : Act} (h : RelE C S E a) (ht : ∀ t, a'.tmps.getD t undef = a.tmps.getD t undef) (hsz : a'.tmps.size = n'.hi) (harg : ∀ t, n'.ar.contains t = true → a'.tmps.getD t undef = ag' t) (hdf : a'.defers = []) : RelE { C with n := n', ag := ag' } S E a' :=
  { slots := fun t => by rw [ht]; exact h.slots t
    rows := h.rows
    boxes := h.boxes
    nests := h.nests
    idn := h.idn
    ownlt := h.ownlt
    keep := ⟨h.keep.os, h.keep.tape, h.keep.output, h.keep.size, h.keep.block⟩
    size := hsz
    arg := harg
    defers := hdf
    idr := h.idr
    idb := h.idb
    glob := h.glob }
theorem push_getD (l : List Value) (v : Value) (t : Nat) : (l ++ [v]).toArray.getD t undef = if t = l.length then v else l.toArray.getD t undef := by
  rw [Array.getD_eq_getD_getElem?, Array.getD_eq_getD_getElem?, List.getElem?_toArray, List.getElem?_toArray]
  by_cases h : t < l.length
  · rw [List.getElem?_append_left h, if_neg (by omega)]
  · rw [List.getElem?_append_right (by omega)]
    by_cases h2 : t = l.length
    · subst h2; simp
    · rw [if_neg h2, List.getElem?_eq_none (by simp; omega), List.getElem?_eq_none (by omega)]
theorem cellsK_ok {R : Type} {r : R} (hT : TyOk P T) {n0 : Nat} {tm : Array Value} : ∀ {rs : List ResultVar} {C : Ctx} {S : St} {E : Env} {l : List Value} {K : St → Option R}, C.P = P → RelE C S E ⟨l.toArray, []⟩ → n0 ≤ l.length → C.n.hi = l.length → resLt n0 rs = true → (∀ t, t < n0 → l.toArray.getD t undef = tm.getD t undef) → (∀ t, C.n.ar.contains t = true → t < n0) → cellsK T rs l.length S K = some r →
    ∃ S' E' us, K S' = some r ∧ E'.w = E.w ∧ RelE { C with n := ⟨l.length + us.length, C.n.ar⟩ } S' E' ⟨(l ++ us).toArray, []⟩ ∧ (List.mapM (resG tm) rs).run P E.w = .ok ((resIx rs l.length).map fun t => (l ++ us).getD t undef) E.w ∧ us.length = rs.length
  | [], C, S, E, l, K, hP, h, hl, hn, hlt, hag, har, hK => by
    refine ⟨S, E, [], hK, rfl, ?_, by simp [resIx], rfl⟩
    rw [List.append_nil]
    exact h.act (n' := ⟨l.length + 0, C.n.ar⟩) (ag' := C.ag) (fun t => rfl) (by show (List.toArray l).size = _; simp) (fun t ht => h.arg t ht) rfl
  | x :: rs, C, S, E, l, K, hP, h, hl, hn, hlt, hag, har, hK => by
    -- one result more
    have next : ∀ (v : Value) (S2 : St) (E2 : Env), E2.w = E.w → RelE { C with n := ⟨(l ++ [v]).length, C.n.ar⟩ } S2 E2 ⟨(l ++ [v]).toArray, []⟩ → (resG tm x).run P E.w = .ok v E.w ∨ (∃ t, x = .tmp t) → resLt n0 rs = true → cellsK T rs (l.length + 1) S2 K = some r →
        (∀ us : List Value, (resG tm x).run P E.w = .ok ((l ++ [v] ++ us).getD ((resIx [x] l.length).headD 0) undef) E.w) →
        ∃ S' E' us, K S' = some r ∧ E'.w = E.w ∧ RelE { C with n := ⟨l.length + us.length, C.n.ar⟩ } S' E' ⟨(l ++ us).toArray, []⟩ ∧ (List.mapM (resG tm) (x :: rs)).run P E.w = .ok ((resIx (x :: rs) l.length).map fun t => (l ++ us).getD t undef) E.w ∧ us.length = (x :: rs).length := by
      intro v S2 E2 hw2 hr2 _ hlt2 hK2 hx
      have hK3 : cellsK T rs (l ++ [v]).length S2 K = some r := by rw [List.length_append]; exact hK2
      obtain ⟨S', E', us, k1, k2, k3, k4, k5⟩ := cellsK_ok hT (tm := tm) (n0 := n0) (C := { C with n := ⟨(l ++ [v]).length, C.n.ar⟩ }) hP hr2 (by rw [List.length_append]; exact Nat.le_trans hl (Nat.le_add_right _ _)) rfl hlt2 (fun t ht => by rw [push_getD, if_neg (by omega)]; exact hag t ht) har hK3
      refine ⟨S', E', v :: us, k1, k2.trans hw2, ?_, ?_, by simp [k5]⟩
      · have e1 : (⟨(l ++ [v]).length + us.length, C.n.ar⟩ : NS) = ⟨l.length + (v :: us).length, C.n.ar⟩ := by simp; omega
        have e2 : l ++ [v] ++ us = l ++ v :: us := by simp
        rw [e2] at k3
        have k3' : RelE { C with n := ⟨(l ++ [v]).length + us.length, C.n.ar⟩ } S' E' ⟨(l ++ v :: us).toArray, []⟩ := k3
        rw [e1] at k3'
        exact k3'
      · rw [hw2] at k4
        have e2 : l ++ [v] ++ us = l ++ v :: us := by simp
        rw [e2] at k4
        have hx' := hx us
        rw [e2] at hx'
        simp only [List.mapM_cons, Sem.run_bind, hx', Result.andThen_ok, k4, Sem.run_pure]
        cases x with
        | tmp t => simp [resIx]
        | cell a t => simp [resIx]
    cases x with
    | tmp t =>
      simp only [resLt, Bool.and_eq_true] at hlt
      have htn : t < n0 := by simpa [Nat.blt_eq] using hlt.1
      refine next undef S E rfl ?_ (.inr ⟨t, rfl⟩) hlt.2 hK (fun us => ?_)
      · refine h.act (n' := ⟨(l ++ [undef]).length, C.n.ar⟩) (ag' := C.ag) (fun t => ?_) (by show (List.toArray _).size = _; simp) (fun t ht => ?_) rfl
        · show (l ++ [undef]).toArray.getD t undef = l.toArray.getD t undef
          rw [push_getD]
          split
          · rename_i e
            subst e
            rw [Array.getD_eq_getD_getElem?, List.getElem?_toArray, List.getElem?_eq_none (Nat.le_refl _)]; rfl
          · rfl
        · show (l ++ [undef]).toArray.getD t undef = _
          have htl : t < l.length := Nat.lt_of_lt_of_le (har t ht) hl
          rw [push_getD, if_neg (Nat.ne_of_lt htl)]
          exact h.arg t ht
      · show Result.ok (tm.getD t undef) E.w = _
        have hlt' : t < l.length := Nat.lt_of_lt_of_le htn hl
        have : (l ++ [undef] ++ us).getD t undef = tm.getD t undef := by
          rw [← hag t htn, Array.getD_eq_getD_getElem?, List.getElem?_toArray, List.getD_eq_getElem?_getD, List.append_assoc, List.getElem?_append_left hlt']
        show Result.ok _ _ = Result.ok ((l ++ [undef] ++ us).getD t undef) _
        rw [this]
    | cell a t =>
      simp only [resLt, Bool.and_eq_true] at hlt
      have han : a < n0 := by simpa [Nat.blt_eq] using hlt.1
      simp only [cellsK] at hK
      split at hK
      · rename_i b o hsl
        split at hK
        · rename_i B hB
          split at hK
          rotate_left
          · cases hK
          rename_i cs hcs
          obtain ⟨s, fz, v, g1, g2, g3⟩ := loadBox_ok hP hT h hB hcs hK
          have hs := h.slots a
          rw [hsl] at hs
          have hv : tm.getD a undef = .pointer (some ⟨E.bb b, o, none⟩) := by rw [← hag a han]; exact hs.2
          have hrun : (resG tm (.cell a t)).run P E.w = .ok v E.w := by
            have h1 := g2 E.w rfl
            simp only [Instr.loadAt, Instr.sureAddr, Sem.run_bind, Sem.run_pure, Result.andThen_ok] at h1
            simp only [resG, hv, asAddr, Sem.run_bind, Sem.run_pure, Result.andThen_ok]
            exact h1
          refine next v ((S.frs fz).set l.length (.one s)) (E.drops fz) rfl ?_ (.inl hrun) hlt.2 g1 (fun us => ?_)
          · have h2 := h.frs (l := fz)
            exact { h2 with
              slots := fun t => by
                show SLR _ (E.drops fz) (sel t l.length (.one s) ((S.frs fz).sl t)) ((l ++ [v]).toArray.getD t undef)
                rw [sel_eq, push_getD]
                by_cases ht : t = l.length
                · rw [if_pos ht, if_pos ht]; exact g3
                · rw [if_neg ht, if_neg ht]; exact h2.slots t
              rows := h2.rows
              boxes := h2.boxes
              nests := h2.nests
              size := by show (List.toArray _).size = _; simp
              arg := fun t ht => by
                show (l ++ [v]).toArray.getD t undef = _
                have htl : t < l.length := Nat.lt_of_lt_of_le (har t ht) hl
                rw [push_getD, if_neg (Nat.ne_of_lt htl)]
                exact h.arg t ht
              keep := ⟨h2.keep.os, h2.keep.tape, h2.keep.output, h2.keep.size, h2.keep.block⟩
              defers := rfl
              ownlt := h2.ownlt
              idr := h2.idr
              idb := h2.idb
              glob := h2.glob }
          · rw [hrun]
            show _ = Result.ok ((l ++ [v] ++ us).getD l.length undef) _
            rw [List.getD_eq_getElem?_getD, List.append_assoc, List.getElem?_append_right (Nat.le_refl _)]
            simp
        · cases hK
      · cases hK
/-- A call whose body the machine runs from a state. -/
theorem call_of_run (hT : TyOk P T) (hD : DenOk P T.gl D) {f : FuncId} {fn : Func} {c : Code} (hf : P.funcs[f]? = some fn) (hb : fn.body = some c) (d : Den) {rs : List ResultVar} (hrs : fn.results.toList = rs) (hres : resIx rs fn.ntmps = d.res) (hrl : resLt fn.ntmps rs = true) (har : (nsOf fn d.lin d.lout).ar.all (Nat.blt · fn.ntmps) = true) (hps : d.lin.length ≤ fn.ntmps)
    (hlen : ∀ x, (canL d.lin x 0).2.length ≤ 1000) (hmt : ∀ x r, mtOk (nsOf fn d.lin d.lout).ar (canL d.lin x 0).1 (canL d.lout (d.out r) 0).1 d.mt 0 = true)
    (hH : hintsIn H P T.gl (nsOf fn d.lin d.lout) c) (fin : CSs.den d.lout → d.A) (hfin : ∀ y, d.out (fin y) = y)
    {w : World} {F own : Nat → Prop} {vs : List Value} {E : Env} {x : CSs.den d.lin} {ra : d.A} (hvl : vs.length = d.lin.length) (hw : E.w = w) (hrel : RelE (callCtx P w F own T.gl ⟨vs.length, []⟩ noAg) (canon d.lin x) E ⟨vs.toArray, []⟩) (hlive : ∀ id, E.live id → id < (canL d.lin x 0).2.length)
    (hstart : ∃ S0, (∀ C' a', RelE C' (canon d.lin x) E a' → (∀ t, a'.tmps.getD t undef = vs.toArray.getD t undef) → C'.P = P → RelE C' S0 E a') ∧ Fresh S0 E ∧ run T D H (nsOf fn d.lin d.lout) c S0 (retK T rs fn.ntmps d.lout fin) = some ra) :
    Calls P f vs.toArray w (CallPost P T.gl d w F own E ra) := by
  subst hw
  refine calls_of_wp hf hb ?_
  have hg : ∀ t, (vs.toArray ++ Array.replicate (fn.ntmps - vs.toArray.size) undef).getD t undef = vs.toArray.getD t undef := fun t => by
    rw [Array.getD_eq_getD_getElem?, Array.getD_eq_getD_getElem?]
    by_cases ht : t < vs.toArray.size
    · rw [Array.getElem?_append_left ht]
    · rw [Array.getElem?_append_right (by omega), Array.getElem?_eq_none (xs := vs.toArray) (by omega), Array.getElem?_replicate]
      split <;> rfl
  have hrel2 : RelE { callCtx P E.w F own T.gl ⟨vs.length, []⟩ noAg with n := nsOf fn d.lin d.lout, ag := fun t => vs.toArray.getD t undef } (canon d.lin x) E { tmps := vs.toArray ++ Array.replicate (fn.ntmps - vs.toArray.size) undef, defers := [] } :=
    hrel.act hg (by
      show (vs.toArray ++ Array.replicate (fn.ntmps - vs.toArray.size) undef).size = fn.ntmps
      simp
      omega) (fun t _ => hg t) rfl
  obtain ⟨S0, hs1, hs2, hrr⟩ := hstart
  refine run_ok (C := { callCtx P E.w F own T.gl ⟨vs.length, []⟩ noAg with n := nsOf fn d.lin d.lout, ag := fun t => vs.toArray.getD t undef }) rfl rfl hT hD rfl c hH (hs1 _ _ hrel2 hg rfl) hs2 hrr (fun o S' E' a' hK h' hfr => ?_)
  have fin2 : retK T rs fn.ntmps d.lout fin .ret S' = some ra → bodyPost P fn (CallPost P T.gl d E.w F own E ra) .ret a' E'.w := by
    intro hK0
    unfold retK at hK0
    simp only at hK0
    have hsz' : a'.tmps.toList.length = fn.ntmps := by rw [Array.length_toList]; exact h'.size
    have h'' : RelE { callCtx P E.w F own T.gl ⟨vs.length, []⟩ noAg with n := nsOf fn d.lin d.lout, ag := fun t => vs.toArray.getD t undef } S' E' ⟨a'.tmps.toList.toArray, []⟩ := h'.act (n' := nsOf fn d.lin d.lout) (ag' := fun t => vs.toArray.getD t undef) (fun t => by simp) (by show (List.toArray _).size = fn.ntmps; rw [List.size_toArray]; exact hsz') (fun t ht => by
      show a'.tmps.toList.toArray.getD t undef = _
      rw [Array.toArray_toList]
      exact h'.arg t ht) rfl
    rw [← hsz'] at hK0
    obtain ⟨S2, E1, us, hK', hw1, h1, hrunr, hul⟩ := cellsK_ok (P := P) hT (tm := a'.tmps) (n0 := fn.ntmps) rfl h'' (by omega) (by show fn.ntmps = _; exact hsz'.symm) hrl (fun t _ => by rw [Array.toArray_toList]) (fun t ht => by
      have h1 := List.all_eq_true.1 har t (by simpa using ht)
      simpa [Nat.blt_eq] using h1) hK0
    split at hK'
    · rename_i y hy
      cases hK'
      obtain ⟨E2, e1, e2, e3⟩ := canon_same h1 hy (.inr trivial)
      have hresrun : (results fn a'.tmps).run P E'.w = .ok (outV (d.res.map fun t => (a'.tmps.toList ++ us).getD t undef)) E'.w := by
        have h1 : results fn a'.tmps = (do
          let vs ← fn.results.mapM (resG a'.tmps)
          pure (if h : vs.size = 1 then vs[0] else .tuple vs)) := rfl
        have h2 : fn.results = rs.toArray := by rw [← hrs]
        rw [hsz', hres] at hrunr
        rw [h1, h2, List.mapM_toArray]
        simp only [Sem.run_bind, Sem.run_map, hrunr, Result.andThen_ok, Sem.run_pure]
        congr 1
        generalize (d.res.map fun t => (a'.tmps.toList ++ us).getD t undef) = vs
        unfold outV
        split
        · rename_i hs
          obtain ⟨v, rfl⟩ : ∃ v, vs = [v] := List.length_eq_one_iff.1 (by simpa using hs)
          rfl
        · rename_i hs
          split
          · simp at hs
          · rfl
      have hS2 := h1
      refine ⟨h'.defers, _, hresrun, _, a'.tmps.toList ++ us, E2, rfl, e1.trans hw1, rfl, ?_, by rw [hfin]; exact e3, fun j i => ?_⟩
      · rw [hfin]
        exact e2.act (n' := ⟨(a'.tmps.toList ++ us).length, []⟩) (ag' := noAg) (fun t => rfl) (by show (List.toArray _).size = _; rw [List.size_toArray]) (fun t ht => by cases (show false = true from ht)) rfl
      · have key : ∀ m, mtAt d.mt j = some m → (∀ i, m = .inl i → E2.rv j = E.rv i) ∧ (∀ i, m = .inr i → E2.bb j = E.bb i) := by
          intro m hm
          have h1 := mtOk_at (hmt x (fin y)) j m hm
          rw [Nat.zero_add, hfin] at h1
          unfold mtOk1 at h1
          obtain ⟨t, ht, hs⟩ := List.any_eq_true.1 h1
          have htn : t < fn.ntmps := by
            have h1 := List.all_eq_true.1 har t ht
            simpa [Nat.blt_eq] using h1
          have hat := hS2.arg t (by simp [ht])
          have s1 := hrel2.slots t
          have s2 := e2.slots t
          have s1' : SLR { callCtx P E.w F own T.gl ⟨vs.length, []⟩ noAg with n := nsOf fn d.lin d.lout, ag := fun t => vs.toArray.getD t undef } E (slAt (canL d.lin x 0).1 t) ((a'.tmps.toList ++ us).toArray.getD t undef) := by
            rw [hat]
            show SLR _ E ((canon d.lin x).sl t) (vs.toArray.getD t undef)
            rw [← hg t]
            exact s1
          have s2' : SLR { callCtx P E.w F own T.gl ⟨vs.length, []⟩ noAg with n := nsOf fn d.lin d.lout, ag := fun t => vs.toArray.getD t undef } E2 (slAt (canL d.lout y 0).1 t) ((a'.tmps.toList ++ us).toArray.getD t undef) := s2
          revert s1' s2' hs
          generalize slAt (canL d.lin x 0).1 t = l1
          generalize slAt (canL d.lout y 0).1 t = l2
          generalize (a'.tmps.toList ++ us).toArray.getD t undef = v
          intro hs s1' s2'
          cases l1 with
          | tup ss => simp [topSV, sameAt] at hs
          | one s =>
            cases l2 with
            | tup ss => cases s <;> simp [topSV, sameAt] at hs
            | one s' => exact sameAt_ok hs (svs_cons s1' (svs_nil _ _)) (svs_cons s2' (svs_nil _ _))
            | fn f ss => exfalso; cases s <;> simp [topSV, sameAt] at hs
          | fn f ss =>
            cases l2 with
            | tup ss' => exfalso; simp [topSV, sameAt] at hs
            | fn f' ss' =>
              obtain ⟨us, e1, p⟩ := s1'
              obtain ⟨us', e2, p'⟩ := s2'
              rw [e1] at e2
              injection e2 with _ _ e3
              have : us = us' := by simpa using congrArg Array.toList e3
              subst this
              have hs' : sameAt m j ss ss' = true := by simpa [topSV, sameAt] using hs
              exact sameAt_ok hs' p p'
            | one s' =>
              exfalso
              have hn : ∀ l, sameAt m j l [] = false := fun l => by cases l with | nil => rfl | cons s l => cases s <;> simp [sameAt]
              cases s' <;> simp [topSV, sameAt, hn] at hs
        cases hm : mtAt d.mt j with
        | none => exact ⟨fun h => (by cases h), fun h => (by cases h)⟩
        | some m =>
          obtain ⟨g1, g2⟩ := key m hm
          exact ⟨fun h => g1 i (by cases h; rfl), fun h => g2 i (by cases h; rfl)⟩
    · cases hK'
  cases o with
  | exit id => cases hK
  | normal => exact fin2 hK
  | ret => exact fin2 hK
/-- A body that the machine runs: the function answers so. -/
theorem sat_of_run (hT : TyOk P T) (hD : DenOk P T.gl D) {f : FuncId} {fn : Func} {c : Code} (hf : P.funcs[f]? = some fn) (hb : fn.body = some c) (hname : (fn.name == "runtime.NumGoroutine") = false) (d : Den) {rs : List ResultVar} (hrs : fn.results.toList = rs) (hres : resIx rs fn.ntmps = d.res) (hrl : resLt fn.ntmps rs = true) (har : (nsOf fn d.lin d.lout).ar.all (Nat.blt · fn.ntmps) = true) (hps : d.lin.length ≤ fn.ntmps)
    (hlen : ∀ x, (canL d.lin x 0).2.length ≤ 1000) (hmt : ∀ x r, mtOk (nsOf fn d.lin d.lout).ar (canL d.lin x 0).1 (canL d.lout (d.out r) 0).1 d.mt 0 = true)
    (hH : hintsIn H P T.gl (nsOf fn d.lin d.lout) c) (fin : CSs.den d.lout → d.A) (hfin : ∀ y, d.out (fin y) = y)
    (hrun : ∀ x, run T D H (nsOf fn d.lin d.lout) c (canon d.lin x) (retK T rs fn.ntmps d.lout fin) = d.f x) : Sat P T.gl f d := by
  refine ⟨fun w F own vs E x ra hvl hw hrel hlive hx => ?_, fn, hf, by rw [hb]; rfl, hname⟩
  have hrr := hrun x
  rw [hx] at hrr
  exact call_of_run hT hD hf hb d hrs hres hrl har hps hlen hmt hH fin hfin hvl hw hrel hlive ⟨canon d.lin x, fun C' a' h _ _ => h, fresh_canon hlive (hlen x), hrr⟩
end
end Go.Proofs.YtlioalaehkohlaaDoor.Vm
