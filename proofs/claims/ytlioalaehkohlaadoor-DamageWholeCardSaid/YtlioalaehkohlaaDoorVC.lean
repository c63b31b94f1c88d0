/- Calls. Conditions: as each theorem states them. -/
import Derived.Test.YtlioalaehkohlaaDoorV14
namespace Go.Proofs.YtlioalaehkohlaaDoor.Vm
open Go Go.RowKit
set_option linter.unusedVariables false
set_option linter.unusedSimpArgs false
theorem VR.flat {w w' : World} {F F' : Nat → Prop} : ∀ {k : Ki} {x : k.den} {cs : List Value}, k.flat = true → VR w F k x cs → VR w' F' k x cs
  | .int _, _, _, _, h => h
  | .bool, _, _, _, h => h
  | .str, _, _, _, h => h
  | .unit, _, _, _, h => h
  | .list _, _, _, hf, _ => by simp [Ki.flat] at hf
  | .pair a b, _, _, hf, h => by
    simp only [Ki.flat, Bool.and_eq_true] at hf
    obtain ⟨c1, c2, h0, h1, h2⟩ := h
    exact ⟨c1, c2, h0, h1.flat hf.1, h2.flat hf.2⟩
  | .arr n k, _, _, hf, h => ⟨h.1, h.2.imp (fun x c hc => VR.flat (by simpa [Ki.flat] using hf) hc)⟩
  | .ref k, _, _, hf, _ => by simp [Ki.flat] at hf
  | .nl k, _, _, hf, _ => by simp [Ki.flat] at hf
theorem VRv.flat {w w' : World} {F F' : Nat → Prop} {k : Ki} {x : k.den} {v : Value} (hf : k.flat = true) (h : VRv w F k x v) : VRv w' F' k x v := by
  unfold VRv at h ⊢
  split
  · rename_i hk; rw [if_pos hk] at h; obtain ⟨cs, h1, h2⟩ := h; exact ⟨cs, h1, h2.flat hf⟩
  · rename_i hk; rw [if_neg hk] at h; exact h.flat hf
def callCtx (P : Program) (w : World) (F own : Nat → Prop) (G : List (Nat × GV)) (n : NS) (ag : Nat → Value) : Ctx := ⟨P, w, F, own, n, ag, G⟩
def outV : List Value → Value
  | [v] => v
  | vs => .tuple vs.toArray
def noAg : Nat → Value := fun _ => undef
/-- What a function answers, in memory. -/
def CallPost (P : Program) (G : List (Nat × GV)) (d : Den) (w : World) (F own : Nat → Prop) (E : Env) (r : d.A) (e : Ending) (w' : World) : Prop :=
  ∃ (v : Value) (us : List Value) (E' : Env), e = .returned v ∧ E'.w = w' ∧ v = outV (d.res.map fun t => us.getD t undef) ∧ RelE (callCtx P w F own G ⟨us.length, []⟩ noAg) (canon d.lout (d.out r)) E' ⟨us.toArray, []⟩ ∧
    (∀ id, E'.live id → id < (canL d.lout (d.out r) 0).2.length) ∧ ∀ j i, (mtAt d.mt j = some (.inl i) → E'.rv j = E.rv i) ∧ (mtAt d.mt j = some (.inr i) → E'.bb j = E.bb i)
def Sat (P : Program) (G : List (Nat × GV)) (f : FuncId) (d : Den) : Prop :=
  (∀ (w : World) (F own : Nat → Prop) (vs : List Value) (E : Env) (x : CSs.den d.lin) (r : d.A), vs.length = d.lin.length → E.w = w →
    RelE (callCtx P w F own G ⟨vs.length, []⟩ noAg) (canon d.lin x) E ⟨vs.toArray, []⟩ → (∀ id, E.live id → id < (canL d.lin x 0).2.length) → d.f x = some r →
    Calls P f vs.toArray w (CallPost P G d w F own E r)) ∧
  ∃ fn, P.funcs[f]? = some fn ∧ fn.body.isSome = true ∧ (fn.name == "runtime.NumGoroutine") = false
def DenOk (P : Program) (G : List (Nat × GV)) (D : FuncId → Nat → Option Den) : Prop := ∀ f k d, D f k = some d → Sat P G f d
theorem mtAt_eq : ∀ (l : List (Option (Nat ⊕ Nat))) (i : Nat), mtAt l i = (l[i]?).join
  | [], i => by simp [mtAt]
  | o :: r, 0 => by simp [mtAt]
  | o :: r, i + 1 => by show mtAt r i = _; rw [mtAt_eq r i]; simp
/-- What may stand in an answer. -/
def SV.outp (fl : Bool) : SV → Prop
  | .val k _ => fl = true → k.flat = true
  | .row _ => True
  | .ptr _ _ => True
  | .nil => True
  | .undef => True
  | _ => False
def SL.outp (fl : Bool) : SL → Prop
  | .one s => s.outp fl
  | .fn _ ss => ∀ s ∈ ss, s.outp fl
  | .tup _ => False
def Ob.outp (fl : Bool) : Ob → Prop
  | .row r => r.fz = false ∧ (fl = true → r.k.flat = true)
  | .box b => ∀ s ∈ b.cs, s.outp fl
  | .nest n => fl = true → n.k.flat = true
theorem ckV_out {fl : Bool} : ∀ (cs : List CK) (x : CKs.den cs) (i : Nat), (fl = true → cs.all CK.flat = true) → (∀ s ∈ (ckV cs x i).1, s.outp fl) ∧ ∀ o ∈ (ckV cs x i).2, o.outp fl
  | [], _, _, _ => ⟨fun s hs => by simp [ckV] at hs, fun s hs => by simp [ckV] at hs⟩
  | .v k :: cs, x, i, h => by
    obtain ⟨g1, g2⟩ := ckV_out (fl := fl) cs x.2 i (fun e => by have := h e; simp only [List.all_cons, Bool.and_eq_true] at this; exact this.2)
    refine ⟨fun s hs => ?_, g2⟩
    rcases List.mem_cons.1 hs with rfl | hs
    · exact fun e => by have := h e; simp only [List.all_cons, Bool.and_eq_true] at this; exact this.1
    · exact g1 s hs
  | .own e k :: cs, x, i, h => by
    obtain ⟨g1, g2⟩ := ckV_out (fl := fl) cs x.2 (i + 1) (fun e => by have := h e; simp only [List.all_cons, Bool.and_eq_true] at this; exact this.2)
    refine ⟨fun s hs => ?_, fun o ho => ?_⟩
    · rcases List.mem_cons.1 hs with rfl | hs
      · trivial
      · exact g1 s hs
    · rcases List.mem_cons.1 ho with rfl | ho
      · exact ⟨rfl, fun e => by have := h e; simp only [List.all_cons, Bool.and_eq_true] at this; exact this.1⟩
      · exact g2 o ho
theorem cpV_out {fl : Bool} : ∀ (ps : List Cp) (x : Cps.den ps) (i : Nat), (fl = true → ps.all Cp.flat = true) → (∀ s ∈ (cpV ps x i).1, s.outp fl) ∧ ∀ o ∈ (cpV ps x i).2, o.outp fl
  | [], _, _, _ => ⟨fun s hs => by simp [cpV] at hs, fun s hs => by simp [cpV] at hs⟩
  | .v k :: ps, x, i, h => by
    obtain ⟨g1, g2⟩ := cpV_out (fl := fl) ps x.2 i (fun e => by have := h e; simp only [List.all_cons, Bool.and_eq_true] at this; exact this.2)
    refine ⟨fun s hs => ?_, g2⟩
    rcases List.mem_cons.1 hs with rfl | hs
    · exact fun e => by have := h e; simp only [List.all_cons, Bool.and_eq_true] at this; exact this.1
    · exact g1 s hs
  | .at j :: ps, x, i, h => by
    obtain ⟨g1, g2⟩ := cpV_out (fl := fl) ps x.2 i (fun e => by have := h e; simp only [List.all_cons, Bool.and_eq_true] at this; exact this.2)
    refine ⟨fun s hs => ?_, g2⟩
    rcases List.mem_cons.1 hs with rfl | hs
    · trivial
    · exact g1 s hs
  | .box t cs :: ps, x, i, h => by
    obtain ⟨g1, g2⟩ := cpV_out (fl := fl) ps x.2 (i + 1 + (ckV cs x.1 (i + 1)).2.length) (fun e => by have := h e; simp only [List.all_cons, Bool.and_eq_true] at this; exact this.2)
    obtain ⟨k1, k2⟩ := ckV_out (fl := fl) cs x.1 (i + 1) (fun e => by have := h e; simp only [List.all_cons, Bool.and_eq_true] at this; exact this.1)
    refine ⟨fun s hs => ?_, fun o ho => ?_⟩
    · rcases List.mem_cons.1 hs with rfl | hs
      · trivial
      · exact g1 s hs
    · rcases List.mem_cons.1 ho with rfl | ho
      · exact k1
      · rcases List.mem_append.1 ho with ho | ho
        · exact k2 o ho
        · exact g2 o ho
theorem csV_out {fl : Bool} : ∀ (c : CS) (x : c.den) (i : Nat), (fl = true → c.flat = true) → (csV c x i).1.outp fl ∧ ∀ o ∈ (csV c x i).2, o.outp fl
  | .v k, x, i, h => ⟨h, fun o ho => by simp [csV] at ho⟩
  | .own e k, x, i, h => ⟨trivial, fun o ho => by simp [csV] at ho; subst ho; exact ⟨rfl, h⟩⟩
  | .nil, x, i, h => ⟨trivial, fun o ho => by simp [csV] at ho⟩
  | .box t cs, x, i, h => by
    obtain ⟨k1, k2⟩ := ckV_out (fl := fl) cs x (i + 1) h
    refine ⟨trivial, fun o ho => ?_⟩
    rcases List.mem_cons.1 ho with rfl | ho
    · exact k1
    · exact k2 o ho
  | .at j, x, i, h => ⟨trivial, fun o ho => by simp [csV] at ho⟩
  | .ra j, x, i, h => ⟨trivial, fun o ho => by simp [csV] at ho⟩
  | .nest e t k, x, i, h => ⟨trivial, fun o ho => by simp [csV] at ho; subst ho; exact h⟩
  | .fn f ps, x, i, h => by
    obtain ⟨k1, k2⟩ := cpV_out (fl := fl) ps x i h
    exact ⟨k1, k2⟩
theorem canL_out {fl : Bool} : ∀ (L : List (Nat × CS)) (x : CSs.den L) (i : Nat), (fl = true → L.all (fun c => c.2.flat) = true) → (∀ t s, look (canL L x i).1 t = some s → s.outp fl) ∧ ∀ o ∈ (canL L x i).2, o.outp fl
  | [], _, _, _ => ⟨fun t s hs => by simp [canL, look] at hs, fun o ho => by simp [canL] at ho⟩
  | c :: L, x, i, h => by
    obtain ⟨g1, g2⟩ := canL_out (fl := fl) L x.2 (i + (csV c.2 x.1 i).2.length) (fun e => by have := h e; simp only [List.all_cons, Bool.and_eq_true] at this; exact this.2)
    obtain ⟨k1, k2⟩ := csV_out (fl := fl) c.2 x.1 i (fun e => by have := h e; simp only [List.all_cons, Bool.and_eq_true] at this; exact this.1)
    refine ⟨fun t s hs => ?_, fun o ho => ?_⟩
    · simp only [canL, look] at hs
      split at hs
      · cases hs; exact k1
      · exact g1 t s hs
    · rcases List.mem_append.1 ho with ho | ho
      · exact k2 o ho
      · exact g2 o ho
theorem canon_row {L : List (Nat × CS)} {x : CSs.den L} {id : Nat} {r : RowC} (h : (canon L x).rows id = some r) : (canL L x 0).2[id]? = some (.row r) := by
  have : (match obAt (canL L x 0).2 id with | some (.row r) => some r | _ => none) = some r := h
  split at this
  · rename_i r' hr'; cases this; rw [← obAt_eq]; exact hr'
  · cases this
theorem canon_box {L : List (Nat × CS)} {x : CSs.den L} {id : Nat} {r : BoxC} (h : (canon L x).box id = some r) : (canL L x 0).2[id]? = some (.box r) := by
  have : (match obAt (canL L x 0).2 id with | some (.box r) => some r | _ => none) = some r := h
  split at this
  · rename_i r' hr'; cases this; rw [← obAt_eq]; exact hr'
  · cases this
theorem canon_nest {L : List (Nat × CS)} {x : CSs.den L} {id : Nat} {r : NestC} (h : (canon L x).nest id = some r) : (canL L x 0).2[id]? = some (.nest r) := by
  have : (match obAt (canL L x 0).2 id with | some (.nest r) => some r | _ => none) = some r := h
  split at this
  · rename_i r' hr'; cases this; rw [← obAt_eq]; exact hr'
  · cases this
theorem row_canon {L : List (Nat × CS)} {x : CSs.den L} {id : Nat} {r : RowC} (h : (canL L x 0).2[id]? = some (.row r)) : (canon L x).rows id = some r := by
  show (match obAt (canL L x 0).2 id with | some (.row r) => some r | _ => none) = some r
  rw [obAt_eq, h]
theorem box_canon {L : List (Nat × CS)} {x : CSs.den L} {id : Nat} {r : BoxC} (h : (canL L x 0).2[id]? = some (.box r)) : (canon L x).box id = some r := by
  show (match obAt (canL L x 0).2 id with | some (.box r) => some r | _ => none) = some r
  rw [obAt_eq, h]
theorem nest_canon {L : List (Nat × CS)} {x : CSs.den L} {id : Nat} {r : NestC} (h : (canL L x 0).2[id]? = some (.nest r)) : (canon L x).nest id = some r := by
  show (match obAt (canL L x 0).2 id with | some (.nest r) => some r | _ => none) = some r
  rw [obAt_eq, h]
theorem canon_slot {fl : Bool} {L : List (Nat × CS)} {x : CSs.den L} (hf : fl = true → L.all (fun c => c.2.flat) = true) (t : Nat) : ((canon L x).sl t).outp fl := by
  show SL.outp fl (match look (canL L x 0).1 t with | some s => s | none => .one .undef)
  cases h : look (canL L x 0).1 t with
  | none => trivial
  | some s => exact (canL_out L x 0 hf).1 t s h
section
variable {C : Ctx} {S : St} {E : Env} {q : Nat} {a : Act} {o : Oper} {R : Type} {T : Tys} {r : R}
theorem SVR.flat {C C' : Ctx} {E : Env} {s : SV} {v : Value} (hs : s.outp true) (h : SVR C E s v) : SVR C' E s v := by
  cases s with
  | val k x => exact VRv.flat (hs rfl) h
  | row id => exact h
  | ptr b o => exact h
  | nil => exact h
  | undef => trivial
  | _ => exact hs.elim
theorem VR_of_mk {w : World} {F : Nat → Prop} {k : Ki} {x : k.den} {cs : List Value} (h : VRv w F k x (mkV k cs)) (hl : cs.length = k.sz) : VR w F k x cs := by
  unfold VRv mkV at h
  split at h
  · rename_i hk
    obtain ⟨cs', e1, e2⟩ := h
    have e3 : cs.toArray = cs'.toArray := by cases e1; rfl
    rw [show cs = cs' by simpa using congrArg Array.toList e3]
    exact e2
  · rename_i hk
    have h1 : k.sz = 1 := by
      have : k.agg = false := by simpa using hk
      cases k <;> simp [Ki.agg] at this <;> rfl
    obtain ⟨u, rfl⟩ := List.length_eq_one_iff.1 (hl.trans h1)
    exact h
theorem SVc.conv {C C' : Ctx} {E E' : Env} {s s' : SV} (hw : s' = s ∨ (∀ k x, s ≠ .val k x) ∧ ∀ k x, s' ≠ .val k x) (h : ∀ v, SVR C E s v → SVR C' E' s' v) {cs : List Value} (hs : SVc C E s cs) : SVc C' E' s' cs := by
  by_cases hv : ∃ k y, s = .val k y
  · obtain ⟨k, y, rfl⟩ := hv
    rcases hw with rfl | ⟨h1, _⟩
    · exact VR_of_mk (h (mkV k cs) (VRv.of_cells (show VR E.w (E.F C) k y cs from hs))) (VR.len (show VR E.w (E.F C) k y cs from hs))
    · exact absurd rfl (h1 k y)
  · have h2 : ∀ k y, s' ≠ .val k y := fun k y e => by
      rcases hw with rfl | ⟨_, h2⟩
      · exact hv ⟨k, y, e⟩
      · exact h2 k y e
    obtain ⟨v, rfl, h3⟩ : ∃ v, cs = [v] ∧ SVR C E s v := by
      cases s with
      | val k' y => exact absurd ⟨k', y, rfl⟩ hv
      | _ => exact hs
    have h4 := h v h3
    cases s' with
    | val k y => exact absurd rfl (h2 k y)
    | _ => exact ⟨v, rfl, h4⟩
theorem SVcs.conv {C C' : Ctx} {E E' : Env} {f : SV → SV} : ∀ {ss : List SV} {cs : List Value}, (∀ s ∈ ss, ∀ cs, SVc C E s cs → SVc C' E' (f s) cs) → SVcs C E ss cs → SVcs C' E' (ss.map f) cs
  | [], _, _, h => h
  | s :: r, _, h, hs => by
    obtain ⟨c1, c2, rfl, h1, h2⟩ : ∃ c1 c2, _ = c1 ++ c2 ∧ SVc C E s c1 ∧ SVcs C E r c2 := hs
    exact ⟨c1, c2, rfl, h s (by simp) c1 h1, SVcs.conv (fun s' hs' => h s' (List.mem_cons_of_mem _ hs')) h2⟩
theorem SV.up_val (uR uB : Nat → Nat) (s : SV) : s.up uR uB = s ∨ (∀ k x, s ≠ .val k x) ∧ ∀ k x, s.up uR uB ≠ .val k x := by
  cases s with
  | row id => exact .inr ⟨(fun k x e => by cases e), (fun k x e => by cases e)⟩
  | ptr b o => exact .inr ⟨(fun k x e => by cases e), (fun k x e => by cases e)⟩
  | _ => exact .inl rfl
/-- An answer that leads nowhere is one whatever is shared. -/
theorem flat_rel {P : Program} {w : World} {F0 F1 own : Nat → Prop} {G : List (Nat × GV)} {n : NS} {ag : Nat → Value} {L : List (Nat × CS)} {y : CSs.den L} (hf : L.all (fun c => c.2.flat) = true) {E1 : Env} {a1 : Act}
    (h : RelE (callCtx P w F0 own G n ag) (canon L y) E1 a1) (hg : GlobR (callCtx P w F1 own G n ag) E1) : RelE (callCtx P w F1 own G n ag) (canon L y) E1 a1 := by
  have hc := canL_out (fl := true) L y 0 (fun _ => hf)
  exact {
    slots := fun t => by
      have h1 := h.slots t
      have h2 := canon_slot (fl := true) (x := y) (fun _ => hf) t
      cases hs : (canon L y).sl t with
      | one s => rw [hs] at h1 h2; exact SVR.flat h2 h1
      | tup ss => rw [hs] at h2; exact h2.elim
      | fn f ss =>
        rw [hs] at h1 h2
        obtain ⟨vs, e1, e2, e3⟩ := h1
        exact ⟨vs, e1, e2, fun i s v g1 g2 => SVR.flat (h2 s (List.mem_of_getElem? g1)) (e3 i s v g1 g2)⟩
    rows := fun id r hr => by
      obtain ⟨hf, hk⟩ := hc.2 _ (List.mem_of_getElem? (canon_row hr))
      rcases h.rows id r hr with ⟨e1, e2⟩ | ⟨g, c, e1, e2, e2', e3, e4⟩
      · exact .inl ⟨e1, e2⟩
      · rw [if_neg (by rw [hf]; simp)] at e4
        refine .inr ⟨g, c, e1, e2, e2', fun i x hx => ?_, by rw [if_neg (by rw [hf]; simp)]; exact e4⟩
        obtain ⟨ds, f1, f2⟩ := e3 i x hx
        exact ⟨ds, f1.flat (hk rfl), f2⟩
    boxes := fun id b hb => by
      have hcs := hc.2 _ (List.mem_of_getElem? (canon_box hb))
      obtain ⟨o1, arr, o2, o3, o4⟩ := h.boxes id b hb
      exact ⟨o1, arr, o2, by simpa using SVcs.conv (f := fun s => s) (fun s hs cs h => SVc.conv (.inl rfl) (fun v hv => SVR.flat (hcs s hs) hv) h) o3, o4⟩
    ownlt := h.ownlt
    keep := ⟨h.keep.os, h.keep.tape, h.keep.output, h.keep.size, h.keep.block⟩
    size := h.size
    arg := h.arg
    defers := h.defers
    idr := h.idr
    idb := h.idb
    nests := fun id n hn => by
      have hk := hc.2 _ (List.mem_of_getElem? (canon_nest hn))
      rcases h.nests id n hn with e | ⟨g, c, arr, e1, e2, e3, e4, e5, e6, e7, e8⟩
      · exact .inl e
      · refine .inr ⟨g, c, arr, e1, e2, e3, e4, e5, e6, fun i x hx hh => ?_, e8⟩
        obtain ⟨v, k1, k2, k3⟩ := e7 i x hx hh
        refine ⟨v, k1, ?_, k3⟩
        rcases k2 with k2 | ⟨g', c', q1, q2, q3, q4, q5⟩
        · exact .inl k2
        · refine .inr ⟨g', c', q1, q2, q3, fun j z hz => ?_, q5⟩
          obtain ⟨ds, f1, f2⟩ := q4 j z hz
          exact ⟨ds, f1.flat (hk rfl), f2⟩
    idn := h.idn
    glob := hg }
theorem kills_nest : ∀ (l : List Nat) (S : St) (id : Nat) (n : NestC), (S.kills l).nest id = some n → S.nest id = some n ∧ id ∉ l
  | [], S, id, n, h => ⟨h, by simp⟩
  | i :: l, S, id, n, h => by
    obtain ⟨h1, h2⟩ := kills_nest l (S.kill i) id n h
    obtain ⟨h3, h4⟩ := nest_sel (S := S) h1
    exact ⟨h4, by simp [h2, h3]⟩
theorem killsB_nest : ∀ (l : List Nat) (S : St), (S.killsB l).nest = S.nest
  | [], _ => rfl
  | i :: l, S => (killsB_nest l (S.killB i)).trans rfl
theorem puts_nest : ∀ (l : List (Nat × RowC)) (S : St) (id : Nat) (n : NestC), (S.puts l).nest id = some n → S.nest id = some n
  | [], S, id, n, h => h
  | e :: l, S, id, n, h => (nest_sel (S := S) (puts_nest l (S.newRow e.1 e.2) id n h)).2
theorem upd_nest : ∀ (l : List (Nat × BoxC)) (S : St), (S.upd l).nest = S.nest
  | [], _ => rfl
  | b :: l, S => (upd_nest l (S.newBox b.1 b.2)).trans rfl
theorem kills_rows : ∀ (l : List Nat) (S : St) (id : Nat) (r : RowC), (S.kills l).rows id = some r → S.rows id = some r ∧ id ∉ l
  | [], S, id, r, h => ⟨h, by simp⟩
  | i :: l, S, id, r, h => by
    obtain ⟨h1, h2⟩ := kills_rows l (S.kill i) id r h
    have h3 : sel id i none (S.rows id) = some r := h1
    rw [sel_eq] at h3
    split at h3
    · cases h3
    · rename_i hne; exact ⟨h3, by simp [h2, hne]⟩
theorem kills_box : ∀ (l : List Nat) (S : St), (S.kills l).box = S.box
  | [], _ => rfl
  | i :: l, S => (kills_box l (S.kill i)).trans rfl
theorem kills_sl : ∀ (l : List Nat) (S : St), (S.kills l).sl = S.sl
  | [], _ => rfl
  | i :: l, S => (kills_sl l (S.kill i)).trans rfl
theorem killsB_box : ∀ (l : List Nat) (S : St) (id : Nat) (r : BoxC), (S.killsB l).box id = some r → S.box id = some r ∧ id ∉ l
  | [], S, id, r, h => ⟨h, by simp⟩
  | i :: l, S, id, r, h => by
    obtain ⟨h1, h2⟩ := killsB_box l (S.killB i) id r h
    have h3 : sel id i none (S.box id) = some r := h1
    rw [sel_eq] at h3
    split at h3
    · cases h3
    · rename_i hne; exact ⟨h3, by simp [h2, hne]⟩
theorem killsB_rows : ∀ (l : List Nat) (S : St), (S.killsB l).rows = S.rows
  | [], _ => rfl
  | i :: l, S => (killsB_rows l (S.killB i)).trans rfl
theorem killsB_sl : ∀ (l : List Nat) (S : St), (S.killsB l).sl = S.sl
  | [], _ => rfl
  | i :: l, S => (killsB_sl l (S.killB i)).trans rfl
theorem puts_rows : ∀ (l : List (Nat × RowC)) (S : St) (id : Nat) (r : RowC), (S.puts l).rows id = some r → (id, r) ∈ l ∨ S.rows id = some r
  | [], S, id, r, h => .inr h
  | e :: l, S, id, r, h => by
    rcases puts_rows l (S.newRow e.1 e.2) id r h with h1 | h1
    · exact .inl (List.mem_cons_of_mem _ h1)
    · have h3 : sel id e.1 (some e.2) (S.rows id) = some r := h1
      rw [sel_eq] at h3
      split at h3
      · rename_i hb; cases h3; exact .inl (by rw [hb]; exact List.mem_cons_self ..)
      · exact .inr h3
theorem puts_box : ∀ (l : List (Nat × RowC)) (S : St), (S.puts l).box = S.box
  | [], _ => rfl
  | e :: l, S => (puts_box l (S.newRow e.1 e.2)).trans rfl
theorem puts_sl : ∀ (l : List (Nat × RowC)) (S : St), (S.puts l).sl = S.sl
  | [], _ => rfl
  | e :: l, S => (puts_sl l (S.newRow e.1 e.2)).trans rfl
theorem upd_rows : ∀ (l : List (Nat × BoxC)) (S : St), (S.upd l).rows = S.rows
  | [], _ => rfl
  | b :: l, S => (upd_rows l (S.newBox b.1 b.2)).trans rfl
theorem upd_sl : ∀ (l : List (Nat × BoxC)) (S : St), (S.upd l).sl = S.sl
  | [], _ => rfl
  | b :: l, S => (upd_sl l (S.newBox b.1 b.2)).trans rfl
theorem upd_box : ∀ (l : List (Nat × BoxC)) (S : St) (b : Nat) (B : BoxC), (S.upd l).box b = some B → (b, B) ∈ l ∨ S.box b = some B
  | [], S, b, B, h => .inr h
  | e :: l, S, b, B, h => by
    rcases upd_box l (S.newBox e.1 e.2) b B h with h1 | h2
    · exact .inl (List.mem_cons_of_mem _ h1)
    · have h3 : sel b e.1 (some e.2) (S.box b) = some B := h2
      rw [sel_eq] at h3
      split at h3
      · rename_i hb; cases h3; exact .inl (by rw [hb]; exact List.mem_cons_self ..)
      · exact .inr h3
theorem obRows_mem (uR : Nat → Nat) : ∀ (l : List Ob) (i id : Nat) (r : RowC), (id, r) ∈ obRows uR l i → ∃ j, l[j]? = some (.row r) ∧ id = uR (i + j)
  | [], i, id, r, h => by simp [obRows] at h
  | .row r' :: l, i, id, r, h => by
    rcases List.mem_cons.1 h with h | h
    · cases h; exact ⟨0, rfl, rfl⟩
    · obtain ⟨j, h1, h2⟩ := obRows_mem uR l (i + 1) id r h
      exact ⟨j + 1, by simpa using h1, by rw [h2]; congr 1; omega⟩
  | .box b :: l, i, id, r, h => by
    obtain ⟨j, h1, h2⟩ := obRows_mem uR l (i + 1) id r h
    exact ⟨j + 1, by simpa using h1, by rw [h2]; congr 1; omega⟩
  | .nest b :: l, i, id, r, h => by
    obtain ⟨j, h1, h2⟩ := obRows_mem uR l (i + 1) id r h
    exact ⟨j + 1, by simpa using h1, by rw [h2]; congr 1; omega⟩
theorem obBoxes_mem (uR uB : Nat → Nat) : ∀ (l : List Ob) (i id : Nat) (B : BoxC), (id, B) ∈ obBoxes uR uB l i → ∃ j b, l[j]? = some (.box b) ∧ id = uB (i + j) ∧ B = ⟨b.t, b.cs.map (SV.up uR uB)⟩
  | [], i, id, r, h => by simp [obBoxes] at h
  | .row r' :: l, i, id, B, h => by
    obtain ⟨j, b, h1, h2, h3⟩ := obBoxes_mem uR uB l (i + 1) id B h
    exact ⟨j + 1, b, by simpa using h1, by rw [h2]; congr 1; omega, h3⟩
  | .nest r' :: l, i, id, B, h => by
    obtain ⟨j, b, h1, h2, h3⟩ := obBoxes_mem uR uB l (i + 1) id B h
    exact ⟨j + 1, b, by simpa using h1, by rw [h2]; congr 1; omega, h3⟩
  | .box b :: l, i, id, B, h => by
    rcases List.mem_cons.1 h with h | h
    · cases h; exact ⟨0, b, rfl, rfl, rfl⟩
    · obtain ⟨j, b', h1, h2, h3⟩ := obBoxes_mem uR uB l (i + 1) id B h
      exact ⟨j + 1, b', by simpa using h1, by rw [h2]; congr 1; omega, h3⟩
theorem obNests_mem (uR : Nat → Nat) : ∀ (l : List Ob) (i id : Nat) (r : NestC), (id, r) ∈ obNests uR l i → ∃ j, l[j]? = some (.nest r) ∧ id = uR (i + j)
  | [], i, id, r, h => by simp [obNests] at h
  | .nest r' :: l, i, id, r, h => by
    rcases List.mem_cons.1 h with h | h
    · cases h; exact ⟨0, rfl, rfl⟩
    · obtain ⟨j, h1, h2⟩ := obNests_mem uR l (i + 1) id r h
      exact ⟨j + 1, by simpa using h1, by rw [h2]; congr 1; omega⟩
  | .box b :: l, i, id, r, h => by
    obtain ⟨j, h1, h2⟩ := obNests_mem uR l (i + 1) id r h
    exact ⟨j + 1, by simpa using h1, by rw [h2]; congr 1; omega⟩
  | .row b :: l, i, id, r, h => by
    obtain ⟨j, h1, h2⟩ := obNests_mem uR l (i + 1) id r h
    exact ⟨j + 1, by simpa using h1, by rw [h2]; congr 1; omega⟩
theorem putN_nest : ∀ (l : List (Nat × NestC)) (S : St) (id : Nat) (n : NestC), (S.putN l).nest id = some n → (id, n) ∈ l ∨ S.nest id = some n
  | [], S, id, n, h => .inr h
  | e :: l, S, id, n, h => by
    rcases putN_nest l (S.newNest e.1 e.2) id n h with h1 | h1
    · exact .inl (List.mem_cons_of_mem _ h1)
    · have h3 : sel id e.1 (some e.2) (S.nest id) = some n := h1
      rw [sel_eq] at h3
      split at h3
      · rename_i hb; cases h3; exact .inl (by rw [hb]; exact List.mem_cons_self ..)
      · exact .inr h3
theorem putN_rows : ∀ (l : List (Nat × NestC)) (S : St) (id : Nat) (r : RowC), (S.putN l).rows id = some r → S.rows id = some r
  | [], S, id, r, h => h
  | e :: l, S, id, r, h => by
    have h1 := putN_rows l (S.newNest e.1 e.2) id r h
    have h3 : sel id e.1 none (S.rows id) = some r := h1
    rw [sel_eq] at h3
    split at h3
    · cases h3
    · exact h3
theorem putN_sl : ∀ (l : List (Nat × NestC)) (S : St), (S.putN l).sl = S.sl
  | [], _ => rfl
  | b :: l, S => (putN_sl l (S.newNest b.1 b.2)).trans rfl
theorem putN_box : ∀ (l : List (Nat × NestC)) (S : St), (S.putN l).box = S.box
  | [], _ => rfl
  | b :: l, S => (putN_box l (S.newNest b.1 b.2)).trans rfl
theorem putN_nx : ∀ (l : List (Nat × NestC)) (S : St), (S.putN l).nx = S.nx
  | [], _ => rfl
  | b :: l, S => (putN_nx l (S.newNest b.1 b.2)).trans rfl
theorem rowsOf_mem : ∀ {l : List (Option (Nat ⊕ Nat))} {i : Nat}, i ∉ rowsOf l → some (Sum.inl i) ∉ l
  | [], i, h => by simp
  | none :: l, i, h => by
    have := rowsOf_mem (l := l) (i := i) (by simpa [rowsOf] using h)
    simpa using this
  | some (.inr j) :: l, i, h => by
    have := rowsOf_mem (l := l) (i := i) (by simpa [rowsOf] using h)
    simpa using this
  | some (.inl j) :: l, i, h => by
    simp only [rowsOf, List.mem_cons, not_or] at h
    have := rowsOf_mem (l := l) (i := i) h.2
    simp only [List.mem_cons, Option.some.injEq, Sum.inl.injEq, not_or]
    exact ⟨h.1, this⟩
theorem boxesOf_mem : ∀ {l : List (Option (Nat ⊕ Nat))} {i : Nat}, i ∉ boxesOf l → some (Sum.inr i) ∉ l
  | [], i, h => by simp
  | none :: l, i, h => by
    have := boxesOf_mem (l := l) (i := i) (by simpa [boxesOf] using h)
    simpa using this
  | some (.inl j) :: l, i, h => by
    have := boxesOf_mem (l := l) (i := i) (by simpa [boxesOf] using h)
    simpa using this
  | some (.inr j) :: l, i, h => by
    simp only [boxesOf, List.mem_cons, not_or] at h
    have := boxesOf_mem (l := l) (i := i) h.2
    simp only [List.mem_cons, Option.some.injEq, Sum.inr.injEq, not_or]
    exact ⟨h.1, this⟩
/-- Behind a call. -/
def Env.res (E2 Ein E1 : Env) (q : Nat) (uR uB : Nat → Nat) : Env :=
  { own := fun b => match E1.own b with
      | some (.inl j) => some (.inl (uR j))
      | some (.inr j) => some (.inr (uB j))
      | none => match Ein.own b with
        | some _ => none
        | none => E2.own b
    rv := fun j => if q ≤ j ∧ j < q + 8 then E1.rv (j - q) else E2.rv j
    bb := fun j => if q ≤ j ∧ j < q + 8 then E1.bb (j - q) else E2.bb j
    w := E1.w
    live := fun j => E2.live j ∨ (q ≤ j ∧ j < q + 8 ∧ E1.live (j - q)) }
theorem addRes (h : RelE C S E a) {Ein E1 : Env} {ids : List (Option (Nat ⊕ Nat))} {uR uB : Nat → Nat} {F0 : Nat → Prop} {n : NS} {L : List (Nat × CS)} {y : CSs.den L} {a1 : Act}
    (hF0 : ∀ b, F0 b → E.F C b) (hF0' : ∀ b, E.F C b → F0 b) (hin : ∀ b o, Ein.own b = some o → ∃ z, E.own b = some z ∧ some z ∈ ids) (hq : ∀ id, q ≤ id → id < q + 8 → ¬ E.live id)
    (h1 : RelE (callCtx C.P E.w F0 (fun b => ∃ o, Ein.own b = some o) C.gl n noAg) (canon L y) E1 a1)
    (hR : ∀ j, E1.live j → (E.res Ein E1 q uR uB).rv (uR j) = E1.rv j ∧ (E.res Ein E1 q uR uB).live (uR j)) (hB : ∀ j, E1.live j → (E.res Ein E1 q uR uB).bb (uB j) = E1.bb j ∧ (E.res Ein E1 q uR uB).live (uB j)) :
    RelE C (((((S.kills (rowsOf ids)).killsB (boxesOf ids)).puts (obRows uR (canL L y 0).2 0)).upd (obBoxes uR uB (canL L y 0).2 0)).putN (obNests uR (canL L y 0).2 0)) (E.res Ein E1 q uR uB) a ∧
    (∀ fz, Fr C E (E.res Ein E1 q uR uB) ((rowsOf ids).map Sum.inl ++ (boxesOf ids).map Sum.inr) fz) ∧
    (∀ s v, SV.outp false s → SVR (callCtx C.P E.w F0 (fun b => ∃ o, Ein.own b = some o) C.gl n noAg) E1 s v → SVR C (E.res Ein E1 q uR uB) (s.up uR uB) v) ∧ ∀ id, (E.res Ein E1 q uR uB).live id → E.live id ∨ (q ≤ id ∧ id < q + 8) := by
  have hsize : E.w.heap.size ≤ E1.w.heap.size := h1.keep.size
  -- what was not handed
  have hnot : ∀ b, b < E.w.heap.size → Ein.own b = none → E1.own b = none ∧ E1.w.heap[b]? = E.w.heap[b]? := fun b hb hn => by
    have hno : ¬ ∃ o, Ein.own b = some o := fun ⟨o, ho⟩ => by rw [hn] at ho; cases ho
    refine ⟨?_, h1.keep.block b hb hno⟩
    cases ho : E1.own b with
    | none => rfl
    | some x =>
      rcases (h1.ownlt b x ho).2 with h2 | h2
      · exact absurd (show E.w.heap.size ≤ b from h2) (by omega)
      · exact absurd h2 hno
  have hin0 : ∀ b, (∀ z, E.own b = some z → some z ∉ ids) → Ein.own b = none := fun b hz => by
    cases ho : Ein.own b with
    | none => rfl
    | some x =>
      obtain ⟨z, h2, h3⟩ := hin b x ho
      exact absurd h3 (hz z h2)
  have hres : ∀ b, E1.own b = none → Ein.own b = none → (E.res Ein E1 q uR uB).own b = E.own b := fun b e1 e2 => by
    show (match E1.own b with | some (.inl j) => some (Sum.inl (uR j)) | some (.inr j) => some (Sum.inr (uB j)) | none => match Ein.own b with | some _ => none | none => E.own b) = E.own b
    rw [e1, e2]
  have hkeep : ∀ g x, E.own g = some x → some x ∉ ids → (E.res Ein E1 q uR uB).own g = some x ∧ (E.res Ein E1 q uR uB).w.heap[g]? = E.w.heap[g]? := fun g x hg hx => by
    have hn := hin0 g (fun z hz => by rw [hg] at hz; cases hz; exact hx)
    obtain ⟨e1, e2⟩ := hnot g (h.ownlt g x hg).1 hn
    exact ⟨(hres g e1 hn).trans hg, e2⟩
  have hF : ∀ b, E.F C b → (E.res Ein E1 q uR uB).F C b ∧ E1.w.heap[b]? = E.w.heap[b]? := fun b hb => by
    have hn := hin0 b (fun z hz => by rw [hb.1] at hz; cases hz)
    obtain ⟨e1, e2⟩ := hnot b hb.2.2 hn
    exact ⟨⟨(hres b e1 hn).trans hb.1, hb.2.1, Nat.lt_of_lt_of_le hb.2.2 hsize⟩, e2⟩
  have hF1 : ∀ b, E1.F (callCtx C.P E.w F0 (fun b => ∃ o, Ein.own b = some o) C.gl n noAg) b → (E.res Ein E1 q uR uB).F C b := fun b hb => by
    obtain ⟨hb1, hb2, hb3⟩ := hb
    have ho : (E.res Ein E1 q uR uB).own b = (match Ein.own b with | some _ => none | none => E.own b) := by
      show (match E1.own b with | some (.inl j) => some (Sum.inl (uR j)) | some (.inr j) => some (Sum.inr (uB j)) | none => match Ein.own b with | some _ => none | none => E.own b) = _
      rw [hb1]
    rcases hb2 with hb2 | hb2 | hb2
    · exact (hF b (hF0 b hb2)).1
    · replace hb2 : E.w.heap.size ≤ b := hb2
      have e0 : E.own b = none := by
        cases hx : E.own b with
        | none => rfl
        | some x => exact absurd (h.ownlt b x hx).1 (by omega)
      refine ⟨?_, .inr (.inl (Nat.le_trans h.keep.size hb2)), hb3⟩
      rw [ho]
      split
      · rfl
      · exact e0
    · obtain ⟨o, ho'⟩ : ∃ o, Ein.own b = some o := hb2
      obtain ⟨z, hz, _⟩ := hin b o ho'
      exact ⟨by rw [ho, ho'], .inr (h.ownlt b z hz).2, hb3⟩
  have hle : Env.Le C E (E.res Ein E1 q uR uB) := ⟨fun j hj => .inl hj, fun j hj => by
    show (if q ≤ j ∧ j < q + 8 then _ else E.rv j) = _
    exact if_neg (fun e => hq j e.1 e.2 hj), fun j hj => by
    show (if q ≤ j ∧ j < q + 8 then _ else E.bb j) = _
    exact if_neg (fun e => hq j e.1 e.2 hj), hF⟩
  have hsv : ∀ s v, SV.outp false s → SVR (callCtx C.P E.w F0 (fun b => ∃ o, Ein.own b = some o) C.gl n noAg) E1 s v → SVR C (E.res Ein E1 q uR uB) (s.up uR uB) v := fun s v hs hv => by
    cases s with
    | val k x => exact VRv.mono (fun b hb => ⟨hF1 b hb, rfl⟩) hv
    | row id =>
      obtain ⟨e1, e2⟩ := hR id hv.1
      exact ⟨e2, hv.2.trans e1.symm⟩
    | ptr b o =>
      obtain ⟨e1, e2⟩ := hB b hv.1
      exact ⟨e2, by rw [e1]; exact hv.2⟩
    | nil => exact hv
    | undef => trivial
    | _ => exact hs.elim
  have hc := canL_out (fl := false) L y 0 (fun e => by cases e)
  refine ⟨?_, fun fz => ⟨hle, fun b i hb hi => ?_⟩, hsv, fun id hid => ?_⟩
  · exact {
      slots := fun t => by rw [putN_sl, upd_sl, puts_sl, killsB_sl, kills_sl]; exact (h.slots t).mono hle
      rows := fun id r hr => by
        replace hr := putN_rows _ _ _ _ hr
        rw [upd_rows] at hr
        rcases puts_rows _ _ _ _ hr with hr | hr
        · obtain ⟨j, hj, rfl⟩ := obRows_mem _ _ _ _ _ hr
          rw [Nat.zero_add]
          have hr1 := row_canon hj
          obtain ⟨hv, hlv⟩ := hR j (h1.idr _ _ hr1)
          obtain ⟨hfz, _⟩ := hc.2 _ (List.mem_of_getElem? hj)
          rcases h1.rows _ _ hr1 with ⟨e1, e2⟩ | ⟨g, c, e1, e2, e2', e3, e4⟩
          · exact .inl ⟨e1, hv.trans e2⟩
          · rw [if_neg (by rw [hfz]; simp)] at e4
            refine .inr ⟨g, c, hv.trans e1, e2, e2', fun i x hx => ?_, ?_⟩
            · obtain ⟨ds, f1, f2⟩ := e3 i x hx
              exact ⟨ds, f1.mono (fun b hb => ⟨hF1 b hb, rfl⟩), f2⟩
            · rw [if_neg (by rw [hfz]; simp)]
              refine ⟨?_, e4.2⟩
              show (match E1.own g with | some (.inl j) => some (Sum.inl (uR j)) | some (.inr j) => some (Sum.inr (uB j)) | none => match Ein.own g with | some _ => none | none => E.own g) = _
              rw [e4.1]
        · rw [killsB_rows] at hr
          obtain ⟨hr1, hr2⟩ := kills_rows _ _ _ _ hr
          exact (h.rows id r hr1).mono hle (h.idr _ _ hr1) (fun g hg => hkeep g _ hg (rowsOf_mem hr2))
      boxes := fun id b hb => by
        rw [putN_box] at hb
        rcases upd_box _ _ _ _ hb with hb | hb
        · obtain ⟨j, b', hj, rfl, rfl⟩ := obBoxes_mem _ _ _ _ _ _ hb
          rw [Nat.zero_add]
          have hb1 := box_canon hj
          obtain ⟨hv, hlv⟩ := hB j (h1.idb _ _ hb1)
          have hcs := hc.2 _ (List.mem_of_getElem? hj)
          obtain ⟨o1, arr, o2, o3, o4⟩ := h1.boxes _ _ hb1
          refine ⟨?_, arr, by rw [hv]; exact o2, SVcs.conv (fun s hs cs h => SVc.conv (SV.up_val uR uB s) (fun v hv => hsv s v (hcs s hs) hv) h) o3, o4⟩
          rw [hv]
          show (match E1.own (E1.bb j) with | some (.inl j) => some (Sum.inl (uR j)) | some (.inr j) => some (Sum.inr (uB j)) | none => match Ein.own (E1.bb j) with | some _ => none | none => E.own (E1.bb j)) = _
          rw [o1]
        · rw [puts_box] at hb
          obtain ⟨hb1, hb2⟩ := killsB_box _ _ _ _ hb
          rw [kills_box] at hb1
          exact (h.boxes id b hb1).mono hle (h.idb _ _ hb1) (fun g hg => hkeep g _ hg (boxesOf_mem hb2))
      ownlt := fun b x hx => by
        have hx' : (match E1.own b with | some (.inl j) => some (Sum.inl (uR j)) | some (.inr j) => some (Sum.inr (uB j)) | none => match Ein.own b with | some _ => none | none => E.own b) = some x := hx
        cases ho : E1.own b with
        | some z =>
          refine ⟨(h1.ownlt b z ho).1, ?_⟩
          rcases (h1.ownlt b z ho).2 with h2 | h2
          · exact .inl (Nat.le_trans h.keep.size h2)
          · obtain ⟨o, ho'⟩ : ∃ o, Ein.own b = some o := h2
            obtain ⟨z', hz', _⟩ := hin b o ho'
            exact (h.ownlt b z' hz').2
        | none =>
          rw [ho] at hx'
          simp only at hx'
          split at hx'
          · cases hx'
          · exact ⟨Nat.lt_of_lt_of_le (h.ownlt b x hx').1 hsize, (h.ownlt b x hx').2⟩
      keep := ⟨h1.keep.os.trans h.keep.os, h1.keep.tape.trans h.keep.tape, h1.keep.output.trans h.keep.output, Nat.le_trans h.keep.size hsize, fun b hb hn => by
        have hb' : b < E.w.heap.size := Nat.lt_of_lt_of_le hb h.keep.size
        have hni : Ein.own b = none := hin0 b (fun z hz => by
          rcases (h.ownlt b z hz).2 with h2 | h2
          · omega
          · exact absurd h2 hn)
        exact (hnot b hb' hni).2.trans (h.keep.block b hb hn)⟩
      size := h.size
      arg := h.arg
      defers := h.defers
      idr := fun id r hr => by
        replace hr := putN_rows _ _ _ _ hr
        rw [upd_rows] at hr
        rcases puts_rows _ _ _ _ hr with hr | hr
        · obtain ⟨j, hj, rfl⟩ := obRows_mem _ _ _ _ _ hr
          rw [Nat.zero_add]
          exact (hR j (h1.idr _ _ (row_canon hj))).2
        · rw [killsB_rows] at hr
          exact .inl (h.idr id r (kills_rows _ _ _ _ hr).1)
      idb := fun id b hb => by
        rw [putN_box] at hb
        rcases upd_box _ _ _ _ hb with hb | hb
        · obtain ⟨j, b', hj, rfl, rfl⟩ := obBoxes_mem _ _ _ _ _ _ hb
          rw [Nat.zero_add]
          exact (hB j (h1.idb _ _ (box_canon hj))).2
        · rw [puts_box] at hb
          have := (killsB_box _ _ _ _ hb).1
          rw [kills_box] at this
          exact .inl (h.idb id b this)
      nests := fun id n hn => by
        rcases putN_nest _ _ _ _ hn with hn | hn
        · obtain ⟨j, hj, rfl⟩ := obNests_mem _ _ _ _ _ hn
          rw [Nat.zero_add]
          have hn1 := nest_canon hj
          obtain ⟨hv, hlv⟩ := hR j (h1.idn _ _ hn1)
          have hown : ∀ g, E1.own g = some (.inl j) → (E.res Ein E1 q uR uB).own g = some (.inl (uR j)) := fun g hg => by
            show (match E1.own g with | some (.inl j) => some (Sum.inl (uR j)) | some (.inr j) => some (Sum.inr (uB j)) | none => match Ein.own g with | some _ => none | none => E.own g) = _
            rw [hg]
          rcases h1.nests _ _ hn1 with ⟨e1, e2⟩ | ⟨g, c, arr, e1, e2, e3, e4, e5, e6, e7, e8⟩
          · exact .inl ⟨e1, hv.trans e2⟩
          · refine .inr ⟨g, c, arr, hv.trans e1, e2, e3, hown g e4, e5, e6, fun i x hx hh => ?_, e8⟩
            obtain ⟨v, k1, k2, k3⟩ := e7 i x hx hh
            refine ⟨v, k1, ?_, k3⟩
            rcases k2 with k2 | ⟨g', c', q1, q2, q3, q4, q5, q6⟩
            · exact .inl k2
            · refine .inr ⟨g', c', q1, q2, q3, fun i x hx => ?_, hown g' q5, q6⟩
              obtain ⟨ds, f1, f2⟩ := q4 i x hx
              exact ⟨ds, f1.mono (fun b hb => ⟨hF1 b hb, rfl⟩), f2⟩
        rw [upd_nest] at hn
        have hn1 := puts_nest _ _ _ _ hn
        rw [killsB_nest] at hn1
        obtain ⟨hn2, hn3⟩ := kills_nest _ _ _ _ hn1
        exact (h.nests id n hn2).mono hle (h.idn id n hn2) (fun g hg => hkeep g _ hg (rowsOf_mem hn3))
      idn := fun id n hn => by
        rcases putN_nest _ _ _ _ hn with hn | hn
        · obtain ⟨j, hj, rfl⟩ := obNests_mem _ _ _ _ _ hn
          rw [Nat.zero_add]
          exact (hR j (h1.idn _ _ (nest_canon hj))).2
        rw [upd_nest] at hn
        have hn1 := puts_nest _ _ _ _ hn
        rw [killsB_nest] at hn1
        exact .inl (h.idn id n (kills_nest _ _ _ _ hn1).1)
      glob := h.glob.mono hle }
  · obtain ⟨e1, e2⟩ := hkeep b i hb (fun hm => hi (by
      cases i with
      | inl j =>
        refine List.mem_append_left _ (List.mem_map.2 ⟨j, ?_, rfl⟩)
        by_cases hj : j ∈ rowsOf ids
        · exact hj
        · exact absurd hm (rowsOf_mem hj)
      | inr j =>
        refine List.mem_append_right _ (List.mem_map.2 ⟨j, ?_, rfl⟩)
        by_cases hj : j ∈ boxesOf ids
        · exact hj
        · exact absurd hm (boxesOf_mem hj)))
    exact ⟨.inl e1, e2⟩
  · rcases hid with hid | ⟨h2, h3, _⟩
    · exact .inl hid
    · exact .inr ⟨h2, h3⟩
theorem pos2_mem : ∀ {l : List (Option (Nat ⊕ Nat))} {i : Nat ⊕ Nat} {j : Nat}, pos2 l i = some j → some i ∈ l
  | [], i, j, h => by simp [pos2] at h
  | none :: l, i, j, h => by
    have h' : (pos2 l i).map (· + 1) = some j := h
    obtain ⟨m, h1, _⟩ := Option.map_eq_some_iff.1 h'
    exact List.mem_cons_of_mem _ (pos2_mem h1)
  | some y :: l, i, j, h => by
    have h' : (match sameI y i with | true => some 0 | false => (pos2 l i).map (· + 1)) = some j := h
    split at h'
    · rename_i hs
      rw [sameI_iff.1 hs]
      exact List.mem_cons_self ..
    · obtain ⟨m, h1, _⟩ := Option.map_eq_some_iff.1 h'
      exact List.mem_cons_of_mem _ (pos2_mem h1)
theorem drops_some {fz : List Nat} {b : Nat} {z : Nat ⊕ Nat} (h : (E.drops fz).own b = some z) : E.own b = some z := by
  have h' : (match E.own b with | some (.inl i) => if fz.contains i then none else some (Sum.inl i) | x => x) = some z := h
  cases ho : E.own b with
  | none => rw [ho] at h'; cases h'
  | some x =>
    rw [ho] at h'
    cases x with
    | inl i =>
      simp only at h'
      split at h'
      · cases h'
      · exact h'
    | inr i => exact h'
theorem can_in {fz : List Nat} {ids : List (Option (Nat ⊕ Nat))} {b : Nat} {x : Nat ⊕ Nat} (h : (E.can fz ids).own b = some x) : ∃ z, (E.drops fz).own b = some z ∧ some z ∈ ids := by
  have h' : (match (E.drops fz).own b with | some (.inl i) => (pos2 ids (.inl i)).map Sum.inl | some (.inr i) => if E.bb i = b then (pos2 ids (.inr i)).map Sum.inr else none | none => none) = some x := h
  cases hz : (E.drops fz).own b with
  | none => rw [hz] at h'; cases h'
  | some z =>
    refine ⟨z, rfl, ?_⟩
    rw [hz] at h'
    cases z with
    | inl i =>
      simp only at h'
      obtain ⟨m, h1, _⟩ := Option.map_eq_some_iff.1 h'
      exact pos2_mem h1
    | inr i =>
      simp only at h'
      split at h'
      · obtain ⟨m, h1, _⟩ := Option.map_eq_some_iff.1 h'
        exact pos2_mem h1
      · cases h'
theorem SLR.up {C C' : Ctx} {E E' : Env} {uR uB : Nat → Nat} (hu : ∀ s v, SV.outp false s → SVR C' E' s v → SVR C E (s.up uR uB) v) {s : SL} {v : Value} (ho : s.outp false) (h : SLR C' E' s v) : SLR C E (s.up uR uB) v := by
  cases s with
  | one s => exact hu s v ho h
  | tup ss => exact ho.elim
  | fn f ss =>
    obtain ⟨vs, e1, e2, e3⟩ := h
    refine ⟨vs, e1, by rw [List.length_map]; exact e2, fun i s v g1 g2 => ?_⟩
    rw [List.getElem?_map] at g1
    cases hs : ss[i]? with
    | none => rw [hs] at g1; simp at g1
    | some s0 =>
      rw [hs] at g1
      simp only [Option.map_some, Option.some.injEq] at g1
      subst g1
      exact hu s0 v (ho s0 (List.mem_of_getElem? hs)) (e3 i s0 v hs g2)
theorem outSL_ok {ss : List SL} {vs : List Value} (ho : outOk ss = true) (hl : vs.length = ss.length) (h : ∀ (i : Nat) (s : SL) (v : Value), ss[i]? = some s → vs[i]? = some v → SLR C E s v) : SLR C E (outSL ss) (outV vs) := by
  match ss, vs, hl, ho, h with
  | [s], [v], _, _, h => exact h 0 s v rfl rfl
  | [], [], _, _, _ => exact ⟨[], rfl, rfl, fun i s v e1 e2 => by simp at e1⟩
  | s1 :: s2 :: ss, v1 :: v2 :: vs, hl, ho, h =>
    refine ⟨v1 :: v2 :: vs, rfl, by simpa using hl, fun i s v e1 e2 => ?_⟩
    rw [List.getElem?_map] at e1
    cases hs : (s1 :: s2 :: ss)[i]? with
    | none => rw [hs] at e1; simp at e1
    | some s0 =>
      rw [hs] at e1
      simp only [Option.map_some, Option.some.injEq] at e1
      have h1 := h i s0 v hs e2
      have hone : isOne s0 = true := by
        have ho' : (s1 :: s2 :: ss).all isOne = true := by
          cases s1 <;> exact ho
        exact List.all_eq_true.1 ho' s0 (List.mem_of_getElem? hs)
      cases s0 with
      | one z => subst e1; exact h1
      | _ => simp [isOne] at hone
theorem isOne_up (uR uB : Nat → Nat) (s : SL) : isOne (s.up uR uB) = isOne s := by cases s <;> rfl
theorem outOk_up (uR uB : Nat → Nat) (ss : List SL) (h : outOk ss = true) : outOk (ss.map (SL.up uR uB)) = true := by
  match ss, h with
  | [], _ => rfl
  | [s], h => cases s with
    | one s => rfl
    | tup s => cases h
    | fn f s => rfl
  | s1 :: s2 :: ss, h =>
    have h' : (s1 :: s2 :: ss).all isOne = true := by cases s1 <;> exact h
    have h2 : ((s1 :: s2 :: ss).map (SL.up uR uB)).all isOne = true := by
      rw [List.all_map]
      rw [List.all_eq_true] at h' ⊢
      intro x hx
      show isOne (x.up uR uB) = true
      rw [isOne_up]
      exact h' x hx
    show outOk (s1.up uR uB :: s2.up uR uB :: ss.map (SL.up uR uB)) = true
    cases hs : s1.up uR uB <;> (rw [List.map_cons, List.map_cons, hs] at h2; exact h2)
theorem call_enter {P : Program} {w : World} {f : FuncId} {fn : Func} (h1 : P.funcs[f]? = some fn) (h2 : fn.body.isSome = true) (h3 : (fn.name == "runtime.NumGoroutine") = false) {c : Call} {x : Operand} (hc : c.callee = .value x) {vs : List Value} (hx : a.eval x = .func (.func f) #[] vs.toArray) (ho : o.op = .call c) :
    (execOp a.eval o).run P w = .ok (.enter f (c.args.map a.eval ++ vs.toArray)) w := by
  have h2' : fn.body.isNone = false := by cases hb : fn.body <;> simp [hb] at h2 ⊢
  have h4 : ¬ fn.name = "runtime.NumGoroutine" := by simpa using h3
  have h5 : ¬ fn.body = none := fun e => by rw [e] at h2; simp at h2
  simp [execOp, ho, resolve, hc, hx, Deferred.ofValue, invoke, callFunc, h1, h4, h5]
theorem argSl_ok : ∀ {l : List SL} {vs : List Value}, (∀ (i : Nat) (s : SL) (v : Value), l[i]? = some s → vs[i]? = some v → SLR C E s v) → vs.length = l.length → ∀ t, SLR C E (argSl l t) (vs.getD t undef)
  | [], vs, _, _, t => trivial
  | s :: l, [], _, hl, t => by simp at hl
  | s :: l, v :: vs, h, hl, 0 => h 0 s v rfl rfl
  | s :: l, v :: vs, h, hl, t + 1 => by
    have := argSl_ok (l := l) (vs := vs) (fun i s v e1 e2 => h (i + 1) s v (by simpa using e1) (by simpa using e2)) (by simpa using hl) t
    simpa [argSl] using this
theorem callK_ok {D : FuncId → Nat → Option Den} {P : Program} (hP : C.P = P) (hG : C.gl = T.gl) (hD : DenOk P T.gl D) (h : RelE C S E a) (hq : ∀ id, q ≤ id → id < q + 8 → ¬ E.live id) {c : Call} {x : Operand} (hc : c.callee = .value x) {f : FuncId} {caps : List SV} (hx : opv S.sl x = .fn f caps) {d : Den} {key : Nat} (hd : D f key = some d)
    {K : Dl → Option R} (hK : callK S.rows S.box d (c.args.toList.map (opv S.sl) ++ caps.map SL.one) q K = some r) (ho : o.op = .call c) : ∃ δ, K δ = some r ∧ OpOk C S E q a o δ := by
  subst hP
  obtain ⟨hsat, fn, e1, e2, e3⟩ := hD f key d hd
  rw [← hG] at hsat
  unfold callK at hK
  split at hK
  · rename_i y hlen hy
    obtain ⟨ra, hra, hK2⟩ := Option.bind_eq_some_iff.1 hK
    split at hK2
    · rename_i hok hb
      rw [Bool.and_eq_true] at hb
      have h8 : (canL d.lout (d.out ra) 0).2.length ≤ 8 := Nat.le_of_ble_eq_true hb.1
      refine ⟨_, hK2, ?_, trivial⟩
      intro Q
      have hf := eval_ok h x
      rw [hx] at hf
      obtain ⟨cvs, hv, hcs⟩ := hf
      have hlen' := Nat.eq_of_beq_eq_true hlen
      have hvl : (c.args.map a.eval ++ cvs.toArray).toList.length = (c.args.toList.map (opv S.sl) ++ caps.map SL.one).length := by simp [hcs.1]
      have hvals : ∀ (i : Nat) (s : SL) (v : Value), (c.args.toList.map (opv S.sl) ++ caps.map SL.one)[i]? = some s → (c.args.map a.eval ++ cvs.toArray).toList[i]? = some v → SLR C E s v := by
        intro i s v g1 g2
        simp only [Array.toList_append, Array.toList_map] at g2
        by_cases hi : i < c.args.toList.length
        · rw [List.getElem?_append_left (by simpa using hi), List.getElem?_map] at g1 g2
          rw [List.getElem?_eq_getElem hi] at g1 g2
          simp only [Option.map_some, Option.some.injEq] at g1 g2
          subst g1; subst g2
          exact eval_ok h _
        · rw [List.getElem?_append_right (by simpa using hi)] at g1 g2
          simp only [List.length_map] at g1 g2
          rw [List.getElem?_map] at g1
          cases hss : caps[i - c.args.toList.length]? with
          | none => rw [hss] at g1; simp at g1
          | some s' =>
            rw [hss] at g1
            simp only [Option.map_some, Option.some.injEq] at g1
            subst g1
            exact hcs.2 _ s' v hss (by simpa using g2)
      unfold Oper.wp
      rw [call_enter e1 e2 e3 hc hv ho, Oper.upon_enter]
      have hd2 := h.frs (l := y.2.1)
      obtain ⟨hrel, hcl⟩ := canon_rel (ne := fun _ => none) (C' := callCtx C.P E.w ((E.drops y.2.1).F C) (fun b => ∃ o, (E.can y.2.1 y.2.2).own b = some o) C.gl ⟨(c.args.map a.eval ++ cvs.toArray).toList.length, []⟩ noAg) h (fun _ _ e => by cases e) (argSl_ok hvals hvl) hy hok (a' := ⟨(c.args.map a.eval ++ cvs.toArray).toList.toArray, []⟩)
        (fun b hb => ⟨can_none hb.1, .inl hb, hb.2.2⟩) (fun b o ho => by
          obtain ⟨z, hz⟩ := can_some ho
          exact ⟨(hd2.ownlt b z hz).1, .inr ⟨o, ho⟩⟩) ⟨rfl, rfl, rfl, Nat.le_refl _, fun _ _ _ => rfl⟩ rfl (fun t => by rw [Array.getD_eq_getD_getElem?, List.getD_eq_getElem?_getD, List.getElem?_toArray]) (by show (List.toArray _).size = _; rw [List.size_toArray]; rfl) (fun t ht => by cases (show false = true from ht)) rfl
      have hsat1 := hsat E.w _ _ (c.args.map a.eval ++ cvs.toArray).toList (E.can y.2.1 y.2.2) y.1 ra (by rw [hvl, hlen']) rfl hrel (fun id hid => by rw [hcl]; exact hid) hra
      rw [Array.toArray_toList] at hsat1
      refine hsat1.mono ?_
      rintro e w' ⟨v, us, E1, rfl, rfl, rfl, hr1, hl1, hm1⟩
      have fin : ∀ (S2 : St) (E2 : Env) (fz0 : List Nat), E2.w = E.w → E2.live = E.live → E2.rv = E.rv → E2.bb = E.bb → RelE C S2 E2 a → (∀ b o, (E.can y.2.1 y.2.2).own b = some o → ∃ z, E2.own b = some z ∧ some z ∈ y.2.2) →
          RelE (callCtx C.P E.w (E2.F C) (fun b => ∃ o, (E.can y.2.1 y.2.2).own b = some o) C.gl ⟨us.length, []⟩ noAg) (canon d.lout (d.out ra)) E1 ⟨us.toArray, []⟩ →
          Fr C E E2 ((rowsOf y.2.2).map Sum.inl ++ (boxesOf y.2.2).map Sum.inr) fz0 →
          ∃ v' E', a.put o.dst (outV (d.res.map fun t => us.getD t undef)) = a.put o.dst v' ∧ E'.w = E1.w ∧
            RelE C (((((S2.kills (rowsOf y.2.2)).killsB (boxesOf y.2.2)).puts (obRows (outR S.rows q y.2.2 d.mt) (canL d.lout (d.out ra) 0).2 0)).upd (obBoxes (outR S.rows q y.2.2 d.mt) (outB S.box q y.2.2 d.mt) (canL d.lout (d.out ra) 0).2 0)).putN (obNests (outR S.rows q y.2.2 d.mt) (canL d.lout (d.out ra) 0).2 0)) E' a ∧
            SLR C E' (outSL ((d.res.map (slAt (canL d.lout (d.out ra) 0).1)).map (SL.up (outR S.rows q y.2.2 d.mt) (outB S.box q y.2.2 d.mt)))) v' ∧ (∀ id, E'.live id → E.live id ∨ (q ≤ id ∧ id < q + 8)) ∧ Fr C E E' ((rowsOf y.2.2).map Sum.inl ++ (boxesOf y.2.2).map Sum.inr) fz0 := by
        intro S2 E2 fz0 hw2 hl2 hrv2 hbb2 hR2 hin2 hr2 hfr2
        rw [← hw2] at hr2
        have hq2 : ∀ id, q ≤ id → id < q + 8 → ¬ E2.live id := by rw [hl2]; exact hq
        have jlt : ∀ j, E1.live j → j < 8 := fun j hj => Nat.lt_of_lt_of_le (hl1 j hj) h8
        obtain ⟨g1, g2, g3, g4⟩ := addRes hR2 (ids := y.2.2) (uR := outR S.rows q y.2.2 d.mt) (uB := outB S.box q y.2.2 d.mt) (F0 := E2.F C) (fun b hb => hb) (fun b hb => hb) hin2 hq2 hr2
          (fun j hj => by
            have h8j := jlt j hj
            have hdef : (E2.res (E.can y.2.1 y.2.2) E1 q (outR S.rows q y.2.2 d.mt) (outB S.box q y.2.2 d.mt)).rv (q + j) = E1.rv j ∧ (E2.res (E.can y.2.1 y.2.2) E1 q (outR S.rows q y.2.2 d.mt) (outB S.box q y.2.2 d.mt)).live (q + j) := by
              refine ⟨?_, .inr ⟨Nat.le_add_right _ _, by omega, by rw [Nat.add_sub_cancel_left]; exact hj⟩⟩
              show (if q ≤ q + j ∧ q + j < q + 8 then E1.rv (q + j - q) else E2.rv (q + j)) = _
              rw [if_pos (by omega), Nat.add_sub_cancel_left]
            unfold outR
            split
            · rename_i i hi
              split
              · rename_i rr hrr
                split
                · rename_i rc hrc
                  have hlv := h.idr rr rc hrc
                  have hnq : ¬ (q ≤ rr ∧ rr < q + 8) := fun e => hq rr e.1 e.2 hlv
                  refine ⟨?_, .inl (by rw [hl2]; exact hlv)⟩
                  show (if q ≤ rr ∧ rr < q + 8 then _ else E2.rv rr) = _
                  rw [if_neg hnq, hrv2, (hm1 j i).1 hi]
                  have hids : y.2.2[i]? = some (some (.inl rr)) := by
                    rw [mtAt_eq] at hrr
                    cases hz : y.2.2[i]? with
                    | none => rw [hz] at hrr; simp at hrr
                    | some z => rw [hz] at hrr; simp at hrr; rw [hrr]
                  show _ = (match y.2.2[i]? with | some (some (.inl i)) => E.rv i | _ => .slice none 0 0)
                  rw [hids]
                · exact hdef
              · exact hdef
            · exact hdef)
          (fun j hj => by
            have h8j := jlt j hj
            have hdef : (E2.res (E.can y.2.1 y.2.2) E1 q (outR S.rows q y.2.2 d.mt) (outB S.box q y.2.2 d.mt)).bb (q + j) = E1.bb j ∧ (E2.res (E.can y.2.1 y.2.2) E1 q (outR S.rows q y.2.2 d.mt) (outB S.box q y.2.2 d.mt)).live (q + j) := by
              refine ⟨?_, .inr ⟨Nat.le_add_right _ _, by omega, by rw [Nat.add_sub_cancel_left]; exact hj⟩⟩
              show (if q ≤ q + j ∧ q + j < q + 8 then E1.bb (q + j - q) else E2.bb (q + j)) = _
              rw [if_pos (by omega), Nat.add_sub_cancel_left]
            unfold outB
            split
            · rename_i i hi
              split
              · rename_i rr hrr
                split
                · rename_i rc hrc
                  have hlv := h.idb rr rc hrc
                  have hnq : ¬ (q ≤ rr ∧ rr < q + 8) := fun e => hq rr e.1 e.2 hlv
                  refine ⟨?_, .inl (by rw [hl2]; exact hlv)⟩
                  show (if q ≤ rr ∧ rr < q + 8 then _ else E2.bb rr) = _
                  rw [if_neg hnq, hbb2, (hm1 j i).2 hi]
                  have hids : y.2.2[i]? = some (some (.inr rr)) := by
                    rw [mtAt_eq] at hrr
                    cases hz : y.2.2[i]? with
                    | none => rw [hz] at hrr; simp at hrr
                    | some z => rw [hz] at hrr; simp at hrr; rw [hrr]
                  show _ = (match y.2.2[i]? with | some (some (.inr i)) => E.bb i | _ => 0)
                  rw [hids]
                · exact hdef
              · exact hdef
            · exact hdef)
        refine ⟨_, _, rfl, ?_, g1, ?_, by rw [hl2] at g4; exact g4, hfr2.trans (g2 _)⟩
        · rfl
        · refine outSL_ok (outOk_up _ _ _ hb.2) (by simp) (fun i s v k1 k2 => ?_)
          rw [List.getElem?_map, List.getElem?_map] at k1
          rw [List.getElem?_map] at k2
          cases hi : d.res[i]? with
          | none => rw [hi] at k2; simp at k2
          | some t =>
            rw [hi] at k1 k2
            simp only [Option.map_some, Option.some.injEq] at k1 k2
            subst k1; subst k2
            have hs := hr2.slots t
            have ho' := canon_slot (fl := false) (L := d.lout) (x := d.out ra) (fun e => by cases e) t
            have hv' : (us.toArray).getD t undef = us.getD t undef := by rw [Array.getD_eq_getD_getElem?, List.getD_eq_getElem?_getD, List.getElem?_toArray]
            have hs' : SLR (callCtx C.P E2.w (E2.F C) (fun b => ∃ o, (E.can y.2.1 y.2.2).own b = some o) C.gl ⟨us.length, []⟩ noAg) E1 ((canon d.lout (d.out ra)).sl t) (us.getD t undef) := by rw [← hv']; exact hs
            exact SLR.up g3 ho' hs'
      by_cases hflat : d.lout.all (fun c => c.2.flat) = true
      · have hgl : GlobR (callCtx C.P E.w (E.F C) (fun b => ∃ o, (E.can y.2.1 y.2.2).own b = some o) C.gl ⟨us.length, []⟩ noAg) E1 := fun g v hv => by
          obtain ⟨p1, p2⟩ := h.glob g v hv
          have hst : ∀ b, E.F C b → E1.F (callCtx C.P E.w (E.F C) (fun b => ∃ o, (E.can y.2.1 y.2.2).own b = some o) C.gl ⟨us.length, []⟩ noAg) b ∧ E1.w.heap[b]? = E.w.heap[b]? := fun b hb => by
            have hno : ¬ ∃ o, (E.can y.2.1 y.2.2).own b = some o := fun ⟨o, ho⟩ => by
              obtain ⟨z, hz, _⟩ := can_in ho
              have := drops_some hz
              rw [hb.1] at this
              cases this
            refine ⟨⟨?_, .inl hb, Nat.lt_of_lt_of_le hb.2.2 hr1.keep.size⟩, hr1.keep.block b hb.2.2 hno⟩
            cases ho : E1.own b with
            | none => rfl
            | some z =>
              rcases (hr1.ownlt b z ho).2 with h2 | h2
              · exact absurd (show E.w.heap.size ≤ b from h2) (by have := hb.2.2; omega)
              · exact absurd h2 hno
          refine ⟨(hst g p1).1, fun i x hx => ?_⟩
          obtain ⟨ds, f1, f2⟩ := p2 i x hx
          exact ⟨ds, f1.mono hst, f2.mono (hst g p1).2⟩
        have := fin S E [] rfl rfl rfl rfl h (fun b o ho => by
          obtain ⟨z, h1, h2⟩ := can_in ho
          exact ⟨z, drops_some h1, h2⟩) (flat_rel hflat hr1 hgl) (Fr.refl C E _)
        simp only [hflat, if_true]
        exact this
      · have := fin (S.frs y.2.1) (E.drops y.2.1) y.2.1 rfl rfl rfl rfl hd2 (fun b o ho => can_in ho) hr1 (Fr.drops h y.2.1 _)
        simp only [hflat, if_false, Bool.false_eq_true]
        exact this
    · cases hK2
  · cases hK
end
end Go.Proofs.YtlioalaehkohlaaDoor.Vm
