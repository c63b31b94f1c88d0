/- The way through a region that draws, with what may come at any time. Conditions: as each theorem states them. -/
import Derived.Test.YtlioalaehkohlaaDoorV16
namespace Go.Proofs.YtlioalaehkohlaaDoor.Vm
open Go Go.RowKit
set_option linter.unusedVariables false
set_option linter.unusedSimpArgs false
section
variable {R : Type} {r : R}
theorem rd1_one {rw : Nat → Option RowC} {k : Ki} {s : SV} {K : k.den → List Nat → Option R} (h : rd1 rw k s K = some r) : ∃ x fz, K x fz = some r ∧ ∀ {R' : Type} (K' : k.den → List Nat → Option R'), rd1 rw k s K' = K' x fz := by
  unfold rd1 at h ⊢
  repeat' split at h
  all_goals first
    | exact ⟨_, _, h, fun K' => by simp_all⟩
    | cases h
theorem rdN_one {rw : Nat → Option RowC} {k : Ki} {s : SV} {K : Option (List k.den) → List Nat → Option R} (h : rdN rw k s K = some r) : ∃ x fz, K x fz = some r ∧ ∀ {R' : Type} (K' : Option (List k.den) → List Nat → Option R'), rdN rw k s K' = K' x fz := by
  have hn : ∀ {β : Type} {l : List β} {K : Option R}, noneE l K = some r → (∀ {R' : Type} (K' : Option R'), noneE l K' = K') ∧ K = some r := fun {β l K} h => by
    cases l with
    | nil => cases h
    | cons x l => exact ⟨fun K' => rfl, h⟩
  unfold rdN at h ⊢
  repeat' split at h
  all_goals first
    | cases h; done
    | (obtain ⟨h1, h2⟩ := hn h; exact ⟨_, _, h2, fun K' => by simp_all⟩)
    | exact ⟨_, _, h, fun K' => by simp_all⟩
theorem rdK_one {rw : Nat → Option RowC} {k : Ki} {s : SV} {K : k.den → List Nat → Option R} (h : rdK rw k s K = some r) : ∃ x fz, K x fz = some r ∧ ∀ {R' : Type} (K' : k.den → List Nat → Option R'), rdK rw k s K' = K' x fz := by
  cases k with
  | nl k => exact rdN_one h
  | _ => exact rd1_one h
theorem partsK_one {rw : Nat → Option RowC} {ρ : Operand → SL} {k : Ki} : ∀ {l : List (Nat × Operand)} {j : Nat} {K : List k.den → List Nat → Option R}, partsK rw ρ k l j K = some r → ∃ x fz, K x fz = some r ∧ ∀ {R' : Type} (K' : List k.den → List Nat → Option R'), partsK rw ρ k l j K' = K' x fz
  | [], j, K, h => ⟨_, _, h, fun K' => rfl⟩
  | (i, x) :: l, j, K, h => by
    simp only [partsK] at h ⊢
    split at h
    · rename_i hb
      split at h
      · rename_i s hs
        obtain ⟨v, f1, h1, h2⟩ := rdK_one h
        obtain ⟨w, f2, h3, h4⟩ := partsK_one h1
        exact ⟨_, _, h3, fun K' => by rw [h2, h4]⟩
      · cases h
    · cases h
theorem callK_late {rw : Nat → Option RowC} {bx : Nat → Option BoxC} {d : Den} {args : List SL} {q : Nat} {K : Dl → Option R} (h : callK rw bx d args q K = some r) : ∃ δ, K δ = some r ∧ callK rw bx d args q some = some δ := by
  unfold callK at h ⊢
  split at h
  · rename_i x h1 h2
    obtain ⟨ra, e1, e2⟩ := Option.bind_eq_some_iff.1 h
    split at e2
    · rename_i g1 g2
      refine ⟨_, e2, ?_⟩
      rw [e1, Option.bind_some, g1, g2]
    · cases e2
  · cases h
theorem evalQ_late {T : Tys} {D : FuncId → Nat → Option Den} {o : Oper} {ρ : Operand → SL} {q : Nat} {K : Dl → Option R} (ho : lateOp o.op = true) (h : evalQ T D o ρ (fun _ => none) (fun _ => none) q K = some r) : ∃ δ, K δ = some r ∧ evalQ T D o ρ (fun _ => none) (fun _ => none) q some = some δ := by
  cases hop : o.op
  case call c =>
    rw [hop] at ho
    obtain ⟨ce, cas, cts⟩ := c
    cases ce with
    | value f =>
      simp only [evalQ, hop] at h ⊢
      split at h
      · rename_i f' caps hf
        split at h
        · rename_i d hd
          obtain ⟨δ, h1, h2⟩ := callK_late h
          exact ⟨δ, h1, h2⟩
        · cases h
      · cases h
    | _ => exact absurd ho (by simp [lateOp])
  all_goals first
    | (exfalso; rw [hop] at ho; simp [lateOp] at ho; done)
    | (simp only [evalQ, hop] at h; simp only [evalQ, hop])
  all_goals (repeat' split at h)
  all_goals first
    | exact ⟨_, h, by simp_all⟩
    | (cases h; done)
    | (obtain ⟨a, b, h1, h2⟩ := rdK_one h; exact ⟨_, h1, by simp_all⟩)
    | (obtain ⟨a, b, h1, h2⟩ := partsK_one h
       split at h1
       · rename_i hb
         refine ⟨_, h1, ?_⟩
         simp only [h2]
         simp_all only
       · cases h1)
end
def memL (i : Nat) : List Nat → Bool
  | [] => false
  | j :: r => match Nat.beq i j with
    | true => true
    | false => memL i r
theorem memL_mem {i : Nat} : ∀ {l : List Nat}, memL i l = true ↔ i ∈ l
  | [] => by simp [memL]
  | j :: r => by
    unfold memL
    cases h : Nat.beq i j with
    | true => simp [Nat.eq_of_beq_eq_true h]
    | false =>
      have : i ≠ j := fun e => by subst e; simp at h
      simp only [memL_mem (l := r), List.mem_cons, this, false_or]
/-- all parts of a row -/
def subs : List Nat → List (List Nat)
  | [] => [[]]
  | x :: l => (subs l).map (x :: ·) ++ subs l
theorem filter_subs (f : Nat → Bool) : ∀ l : List Nat, l.filter f ∈ subs l
  | [] => by simp [subs]
  | x :: l => by
    unfold subs
    rw [List.filter_cons]
    split
    · exact List.mem_append_left _ (List.mem_map.2 ⟨_, filter_subs f l, rfl⟩)
    · exact List.mem_append_right _ (filter_subs f l)
def unl (L : Array Bool) : List Nat → Array Bool
  | [] => L
  | i :: r => (unl L r).setIfInBounds i false
theorem unl_at (L : Array Bool) : ∀ (D : List Nat) (k : Nat), (unl L D)[k]? = if k ∈ D then (L[k]?).map (fun _ => false) else L[k]?
  | [], k => by simp [unl]
  | i :: r, k => by
    unfold unl
    rw [Array.getElem?_setIfInBounds]
    have ih := unl_at L r k
    have hs : (unl L r).size = L.size := by
      have hsz : ∀ D : List Nat, (unl L D).size = L.size := fun D => by
        induction D with
        | nil => rfl
        | cons x D ih => unfold unl; rw [Array.size_setIfInBounds, ih]
      exact hsz r
    by_cases hik : i = k
    · subst hik
      simp only [if_true, List.mem_cons, true_or, hs]
      by_cases hl : i < L.size
      · simp [hl]
      · simp [hl, Array.getElem?_eq_none (Nat.le_of_not_lt hl)]
    · rw [if_neg hik, ih]
      have : (k ∈ i :: r) ↔ k ∈ r := ⟨fun h => (List.mem_cons.1 h).resolve_left (fun e => hik e.symm), List.mem_cons_of_mem _⟩
      by_cases hm : k ∈ r
      · rw [if_pos hm, if_pos (this.2 hm)]
      · rw [if_neg hm, if_neg (fun e => hm (this.1 e))]
theorem arr_ext {A B : Array Bool} (h : ∀ k : Nat, A[k]? = B[k]?) : A = B := by
  apply Array.ext_getElem?
  exact h
/-- one comes up that was waiting -/
theorem unl_done {L : Array Bool} {D : List Nat} {e : Nat} (he : L[e]? = some true) : (unl L D).setIfInBounds e true = unl L (D.filter (fun i => !Nat.beq i e)) := by
  apply arr_ext
  intro k
  rw [Array.getElem?_setIfInBounds, unl_at, unl_at]
  have hs : ∀ D : List Nat, (unl L D).size = L.size := fun D => by
    induction D with
    | nil => rfl
    | cons x D ih => unfold unl; rw [Array.size_setIfInBounds, ih]
  have hlt : e < L.size := by
    rcases Nat.lt_or_ge e L.size with h | h
    · exact h
    · rw [Array.getElem?_eq_none h] at he; cases he
  by_cases hek : e = k
  · subst hek
    have : e ∉ D.filter (fun i => !Nat.beq i e) := by simp
    rw [if_pos rfl, if_neg this, he, if_pos (by rw [hs]; exact hlt)]
  · rw [if_neg hek]
    have hb : Nat.beq k e = false := by cases hb : Nat.beq k e with | false => rfl | true => exact absurd (Nat.eq_of_beq_eq_true hb).symm hek
    have : k ∈ D.filter (fun i => !Nat.beq i e) ↔ k ∈ D := by simp [List.mem_filter, hb]
    by_cases hm : k ∈ D
    · rw [if_pos hm, if_pos (this.2 hm)]
    · rw [if_neg hm, if_neg (fun h => hm (this.1 h))]
/-- one comes up that was not waiting -/
theorem unl_set {L : Array Bool} {D : List Nat} {i : Nat} (hi : i ∉ D) : (unl L D).setIfInBounds i true = unl (L.setIfInBounds i true) D := by
  apply arr_ext
  intro k
  have hs : ∀ D : List Nat, (unl L D).size = L.size := fun D => by
    induction D with
    | nil => rfl
    | cons x D ih => unfold unl; rw [Array.size_setIfInBounds, ih]
  rw [Array.getElem?_setIfInBounds, unl_at, unl_at, Array.getElem?_setIfInBounds, hs]
  by_cases hik : i = k
  · subst hik; simp [hi]
  · simp [hik]
/-- one waits from here on -/
theorem unl_late {L : Array Bool} {D : List Nat} {e : Nat} (he : L[e]? = some false) : unl (L.setIfInBounds e true) (e :: D) = unl L D := by
  apply arr_ext
  intro k
  have hlt : e < L.size := by
    rcases Nat.lt_or_ge e L.size with h | h
    · exact h
    · rw [Array.getElem?_eq_none h] at he; cases he
  rw [unl_at, unl_at, Array.getElem?_setIfInBounds]
  by_cases hek : e = k
  · subst hek
    simp only [if_true, List.mem_cons, true_or, hlt, Option.map_some, he]
    by_cases hm : e ∈ D <;> simp [hm]
  · have : k ∈ e :: D ↔ k ∈ D := ⟨fun h => (List.mem_cons.1 h).resolve_left (fun x => hek x.symm), List.mem_cons_of_mem _⟩
    by_cases hm : k ∈ D
    · rw [if_pos hm, if_pos (this.2 hm)]; simp [hek]
    · rw [if_neg hm, if_neg (fun h => hm (this.1 h))]; simp [hek]
def neO : Option Nat → Option Nat → Bool
  | some a, some b => !Nat.beq a b
  | _, _ => true
def maskO (o : Oper) : Option Nat → Bool
  | some t => opMask o t
  | none => false
/-- what waits is not written by an operation with this destination -/
def protB (ops : Array Oper) (dst : Option Nat) : List Nat → Bool
  | [] => true
  | e :: D => (match ops[e]? with
    | some o => neO dst o.dst && !maskO o dst
    | none => false) && protB ops dst D
/-- what waits is not read -/
def noRead (ops : Array Oper) (o : Oper) : List Nat → Bool
  | [] => true
  | e :: D => (match ops[e]? with
    | some o' => !maskO o o'.dst
    | none => false) && noRead ops o D
/-- The way through a region that draws is one that serves every order; D: what waits. -/
def pathOk (ops : Array Oper) : List (Way × Nat) → Nat → Array Bool → List Nat → Bool
  | [], _, L, [] => (Region.ready .any ops L).isEmpty
  | [], _, _, _ :: _ => false
  | (.sync, _) :: p, f, L, D => (subs D).all (fun D' => isNilL D' || (!(Region.ready .any ops (unl L D')).isEmpty && (Region.ready .any ops (unl L D')).all (fun j => memL j D'))) && pathOk ops p f L []
  | _ :: _, 0, _, _ => false
  | (.late, i) :: p, f + 1, L, D => (match L[i]? with | some false => true | _ => false) && (!memL i D && (protB ops (dstOf ops i) D && ((match ops[i]? with | some o => noRead ops o D | none => false) && pathOk ops p f (L.setIfInBounds i true) (i :: D))))
  | (.step, i) :: p, f + 1, L, D => !memL i D && (protB ops (dstOf ops i) D && ((subs D).all (fun D' => !(Region.ready .any ops (unl L D')).isEmpty && (Region.ready .any ops (unl L D')).all (fun j => Nat.beq i j || memL j D')) && pathOk ops p f (L.setIfInBounds i true) D))
  | (_, i) :: p, f + 1, L, D => !memL i D && (protB ops (dstOf ops i) D && ((subs D).all (fun D' => Region.free .any ops (unl L D') i && (Region.ready .any ops (unl L D')).contains i) && pathOk ops p f (L.setIfInBounds i true) D))
section
variable {C : Ctx} {S : St} {E : Env} {a : Act} {R : Type} {T : Tys} {D : FuncId → Nat → Option Den} {r : R} {P : Program} {Q : Exit → Act → World → Prop}
def Pe.N (p : Pe) : St := ⟨p.sl, fun _ => none, fun _ => none, 0, fun _ => none⟩
def Pe.Z (p : Pe) : St := (p.N.app p.q p.δ).set p.dst p.δ.v
theorem lateOk_of {δ : Dl} (h : lateOk δ = true) : δ.fz = [] ∧ δ.kl = [] ∧ δ.kb = [] ∧ δ.nw = [] ∧ δ.ub = [] ∧ δ.nn = [] ∧ ((δ.nr = [] ∧ δ.nb = []) ∨ (∃ x, δ.nr = [x] ∧ δ.nb = []) ∨ (∃ x, δ.nr = [] ∧ δ.nb = [x])) := by
  unfold lateOk at h
  split at h
  · rename_i h1 h2 h3 h4 h5 h6
    refine ⟨h1, h2, h3, h4, h5, h6, ?_⟩
    split at h
    · rename_i g1 g2; exact .inl ⟨g1, g2⟩
    · rename_i x g1 g2; exact .inr (.inl ⟨x, g1, g2⟩)
    · rename_i x g1 g2; exact .inr (.inr ⟨x, g1, g2⟩)
    · cases h
  · cases h
theorem app_late {δ : Dl} (h : lateOk δ = true) (S : St) (q : Nat) : S.app q δ = (match δ.nr, δ.nb with | [x], _ => S.newRow q x | _, [x] => S.newBox q x | _, _ => S) := by
  obtain ⟨h1, h2, h3, h4, h5, h7, h6⟩ := lateOk_of h
  unfold St.app
  rw [h1, h2, h3, h4, h5, h7]
  rcases h6 with ⟨g1, g2⟩ | ⟨x, g1, g2⟩ | ⟨x, g1, g2⟩ <;> rw [g1, g2] <;> rfl
theorem late_rows {δ : Dl} (h : lateOk δ = true) {S : St} {q id : Nat} {x : RowC} (hx : (S.app q δ).rows id = some x) (S2 : St) : S.rows id = some x ∨ (id = q ∧ (S2.app q δ).rows id = some x) := by
  rw [app_late h] at hx ⊢
  obtain ⟨_, _, _, _, _, _, h6⟩ := lateOk_of h
  rcases h6 with ⟨g1, g2⟩ | ⟨y, g1, g2⟩ | ⟨y, g1, g2⟩ <;> rw [g1, g2] at hx ⊢
  · exact .inl hx
  · have hx' : sel id q (some y) (S.rows id) = some x := hx
    rw [sel_eq] at hx'
    by_cases e : id = q
    · rw [if_pos e] at hx'
      exact .inr ⟨e, by show sel id q (some y) (S2.rows id) = some x; rw [sel_eq, if_pos e]; exact hx'⟩
    · rw [if_neg e] at hx'; exact .inl hx'
  · exact .inl hx
theorem late_box {δ : Dl} (h : lateOk δ = true) {S : St} {q id : Nat} {x : BoxC} (hx : (S.app q δ).box id = some x) (S2 : St) : S.box id = some x ∨ (id = q ∧ (S2.app q δ).box id = some x) := by
  rw [app_late h] at hx ⊢
  obtain ⟨_, _, _, _, _, _, h6⟩ := lateOk_of h
  rcases h6 with ⟨g1, g2⟩ | ⟨y, g1, g2⟩ | ⟨y, g1, g2⟩ <;> rw [g1, g2] at hx ⊢
  · exact .inl hx
  · exact .inl hx
  · have hx' : sel id q (some y) (S.box id) = some x := hx
    rw [sel_eq] at hx'
    by_cases e : id = q
    · rw [if_pos e] at hx'
      exact .inr ⟨e, by show sel id q (some y) (S2.box id) = some x; rw [sel_eq, if_pos e]; exact hx'⟩
    · rw [if_neg e] at hx'; exact .inl hx'
theorem late_nest {δ : Dl} (h : lateOk δ = true) {S : St} {q id : Nat} {x : NestC} (hx : (S.app q δ).nest id = some x) : S.nest id = some x := by
  rw [app_late h] at hx
  obtain ⟨_, _, _, _, _, _, h6⟩ := lateOk_of h
  rcases h6 with ⟨g1, g2⟩ | ⟨y, g1, g2⟩ | ⟨y, g1, g2⟩ <;> rw [g1, g2] at hx
  · exact hx
  · exact (nest_sel hx).2
  · exact hx
/-- What is said of a part of the state stays where it is not touched. -/
theorem RelE.frame {G S' : St} {E' : Env} {a' : Act} {tc : List (Nat ⊕ Nat)} {fz : List Nat} (h : RelE C G E a) (h' : RelE C S' E' a') (hf : Fr C E E' tc fz)
    (hr : ∀ id x, G.rows id = some x → Sum.inl id ∉ tc ∧ id ∉ fz) (hb : ∀ id x, G.box id = some x → Sum.inr id ∉ tc) (hm : ∀ id x, G.nest id = some x → Sum.inl id ∉ tc ∧ id ∉ fz)
    (hs : ∀ t, G.sl t = .one .undef ∨ a'.tmps.getD t undef = a.tmps.getD t undef) : RelE C G E' a' where
  slots := fun t => by
    rcases hs t with e | e
    · rw [e]; trivial
    · rw [e]; exact SLR.mono hf.le (h.slots t)
  rows := fun id x hx => (h.rows id x hx).mono hf.le (h.idr id x hx) (fun g hg => by
    obtain ⟨k1, k2⟩ := hr id x hx
    obtain ⟨g1, g2⟩ := hf.un g _ hg k1
    refine ⟨?_, g2⟩
    rcases g1 with g1 | ⟨_, j, hj, e⟩
    · exact g1
    · cases e; exact absurd hj k2)
  boxes := fun id x hx => (h.boxes id x hx).mono hf.le (h.idb id x hx) (fun g hg => by
    obtain ⟨g1, g2⟩ := hf.un g _ hg (hb id x hx)
    refine ⟨?_, g2⟩
    rcases g1 with g1 | ⟨_, j, hj, e⟩
    · exact g1
    · cases e)
  nests := fun id x hx => (h.nests id x hx).mono hf.le (h.idn id x hx) (fun g hg => by
    obtain ⟨k1, k2⟩ := hm id x hx
    obtain ⟨g1, g2⟩ := hf.un g _ hg k1
    refine ⟨?_, g2⟩
    rcases g1 with g1 | ⟨_, j, hj, e⟩
    · exact g1
    · cases e; exact absurd hj k2)
  idn := fun id x hx => hf.le.live id (h.idn id x hx)
  ownlt := h'.ownlt
  keep := h'.keep
  size := h'.size
  arg := h'.arg
  defers := h'.defers
  idr := fun id x hx => hf.le.live id (h.idr id x hx)
  idb := fun id x hx => hf.le.live id (h.idb id x hx)
  glob := h'.glob
theorem put_other {a : Act} {dst : Option Tmp} {v : Value} {t : Nat} (ht : some t ≠ dst) : (a.put dst v).tmps.getD t undef = a.tmps.getD t undef := by
  cases dst with
  | none => rfl
  | some d =>
    have hd : d ≠ t := fun e => ht (by rw [e])
    simp only [Act.put, Array.getD_eq_getD_getElem?, Array.getElem?_setIfInBounds, hd, if_false]
variable {E0 : Env} {rw : Nat → Option RowC} {bx : Nat → Option BoxC} {q0 : Nat} {X : List (Nat ⊕ Nat)} {n : NS} {ops : Array Oper} {S0 : World → Prop}
/-- How one stands that waits: it has come up (dn), or not. -/
structure PeOk (C : Ctx) (T : Tys) (D : FuncId → Nat → Option Den) (n : NS) (ops : Array Oper) (S : St) (cl : Nat → Bool) (E : Env) (a : Act) (dn : Bool) (p : Pe) : Prop where
  op : ops[p.i]? = some p.o
  gu : p.o.guard = none
  ds : p.o.dst = some p.dst
  dok : DstOk n (some p.dst)
  ev : evalQ T D p.o (opv p.sl) (fun _ => none) (fun _ => none) p.q some = some p.δ
  ok : lateOk p.δ = true
  sl : ∀ t, opMask p.o t = false → p.sl t = .one .undef
  und : S.sl p.dst = .one .undef
  cln : cl p.dst = false
  qlt : p.q + 8 ≤ S.nx
  st : if dn = true then RelE C p.Z E a else RelE C p.N E a ∧ ∀ id, p.q ≤ id → id < p.q + 8 → ¬ E.live id
theorem Pe.zr {p : Pe} (h : lateOk p.δ = true) {id : Nat} {x : RowC} (hx : p.Z.rows id = some x) : id = p.q := by
  have hx' : (p.N.app p.q p.δ).rows id = some x := hx
  rcases late_rows h hx' p.N with e | e
  · cases e
  · exact e.1
theorem Pe.zb {p : Pe} (h : lateOk p.δ = true) {id : Nat} {x : BoxC} (hx : p.Z.box id = some x) : id = p.q := by
  have hx' : (p.N.app p.q p.δ).box id = some x := hx
  rcases late_box h hx' p.N with e | e
  · cases e
  · exact e.1
/-- One that waits is left alone by another operation. -/
theorem PeOk.keep {dn : Bool} {p : Pe} {S S' : St} {cl cl' : Nat → Bool} {E' : Env} {a' : Act} (h : PeOk C T D n ops S cl E a dn p) {dst : Option Tmp} (hd : some p.dst ≠ dst) (hm : ∀ t, dst = some t → opMask p.o t = false)
    (hact : ∃ v, a' = a.put dst v) (hsl : ∀ t, some t ≠ dst → S.sl t = .one .undef → S'.sl t = .one .undef) (hcl : ∀ t, some t ≠ dst → cl' t = cl t) (hnx : S.nx ≤ S'.nx)
    {tc : List (Nat ⊕ Nat)} {fz : List Nat} (hf : Fr C E E' tc fz) (haw : Sum.inl p.q ∉ tc ∧ Sum.inr p.q ∉ tc ∧ p.q ∉ fz) (hlive : ∀ id, p.q ≤ id → id < p.q + 8 → E'.live id → E.live id) {SX : St} (h' : RelE C SX E' a') : PeOk C T D n ops S' cl' E' a' dn p where
  op := h.op
  gu := h.gu
  ds := h.ds
  dok := h.dok
  ev := h.ev
  ok := h.ok
  sl := h.sl
  und := hsl _ hd h.und
  cln := (hcl _ hd).trans h.cln
  qlt := Nat.le_trans h.qlt hnx
  st := by
    obtain ⟨v, rfl⟩ := hact
    have hslN : ∀ t, p.sl t = .one .undef ∨ (a.put dst v).tmps.getD t undef = a.tmps.getD t undef := fun t => by
      cases hmt : opMask p.o t with
      | false => exact .inl (h.sl t hmt)
      | true => exact .inr (put_other (fun e => by rw [hm t e.symm] at hmt; cases hmt))
    have hst := h.st
    cases dn with
    | false =>
      rw [if_neg (by simp)] at hst ⊢
      exact ⟨hst.1.frame h' hf (fun id x hx => by cases hx) (fun id x hx => by cases hx) (fun id x hx => by cases hx) hslN, fun id h1 h2 h3 => hst.2 id h1 h2 (hlive id h1 h2 h3)⟩
    | true =>
      rw [if_pos rfl] at hst ⊢
      refine hst.frame h' hf (fun id x hx => ?_) (fun id x hx => ?_) (fun id x hx => by cases (late_nest h.ok (S := p.N) (q := p.q) hx)) (fun t => ?_)
      · rw [Pe.zr h.ok hx]; exact ⟨haw.1, haw.2.2⟩
      · rw [Pe.zb h.ok hx]; exact haw.2.1
      · by_cases e : t = p.dst
        · subst e; exact .inr (put_other hd)
        · rcases hslN t with g | g
          · refine .inl ?_
            show sel t p.dst p.δ.v ((p.N.app p.q p.δ).sl t) = _
            rw [sel_eq, if_neg e, app_sl]; exact g
          · exact .inr g
/-- One that waits comes up. -/
theorem late_run (hP : C.P = P) (hG : C.gl = T.gl) (hT : TyOk P T) (hD : DenOk P T.gl D) (hn : C.n = n) {p : Pe} {cl : Nat → Bool} (hp : PeOk C T D n ops S cl E a false p) (h : At2 C E0 rw bx q0 X S cl E a) {K' : Act → World → Prop}
    (hq : ∀ E' v, At2 C E0 rw bx q0 X S cl E' (a.put (some p.dst) v) → RelE C p.Z E' (a.put (some p.dst) v) → Fr C E E' [] [] → (∀ id, E'.live id → E.live id ∨ (p.q ≤ id ∧ id < p.q + 8)) → K' (a.put (some p.dst) v) E'.w) : wpOp P ops Q p.i K' a E.w := by
  have hst := hp.st
  rw [if_neg (by simp)] at hst
  obtain ⟨hN, hfr⟩ := hst
  obtain ⟨δ, g1, g2⟩ := evalQ_ok (S := p.N) (q := p.q) hP hG hT hD hN hfr hp.ev
  cases g1
  obtain ⟨l1, l2, l3, l4, l5, _⟩ := lateOk_of hp.ok
  unfold wpOp
  rw [hp.op]
  simp only
  rw [if_pos (by simp [Region.wanted, hp.gu])]
  have g3 := g2.1 Q
  rw [hP] at g3
  refine .inl (Oper.wp_mono ?_ g3)
  rintro a' w' ⟨v, E', rfl, rfl, e1, e2, e3, e4⟩
  rw [hp.ds]
  have htc : p.δ.tc = [] := by unfold Dl.tc; rw [l2, l3]; rfl
  rw [htc, l1] at e4
  obtain ⟨d1, d2⟩ := hp.dok _ rfl
  have hZ : RelE C p.Z E' (a.put (some p.dst) v) := e1.set (by rw [hn]; exact d1) (by rw [hn]; exact d2) e2
  have hrel : RelE C S E' (a.put (some p.dst) v) := h.rel.frame hZ e4 (fun id x hx => by simp) (fun id x hx => by simp) (fun id x hx => by simp) (fun t => by
    by_cases e : t = p.dst
    · subst e; exact .inl hp.und
    · exact .inr (put_other (fun e' => e (by cases e'; rfl))))
  refine hq E' v ⟨hrel, fun id hid hlv => ?_, h.nx, h.old.put hn hp.dok v (fun t ht => rfl) (fun t ht => rfl) (fun d hd hcd => by cases hd; rw [hp.cln] at hcd; cases hcd), h.since.step (fun i hi => by simp at hi) e4⟩ hZ e4 e3
  rcases e3 id hlv with k | k
  · exact h.fresh id hid k
  · have := hp.qlt; omega
/-- What has come up is put in. -/
theorem sync_one {p : Pe} {S : St} (hp : lateOk p.δ = true) (hz : RelE C p.Z E a) (h : RelE C S E a) : RelE C ((S.app p.q p.δ).set p.dst p.δ.v) E a where
  slots := fun t => by
    show SLR C E (sel t p.dst p.δ.v ((S.app p.q p.δ).sl t)) _
    rw [sel_eq]
    by_cases e : t = p.dst
    · rw [if_pos e]
      have := hz.slots t
      have h2 : SLR C E (sel t p.dst p.δ.v ((p.N.app p.q p.δ).sl t)) (a.tmps.getD t undef) := this
      rw [sel_eq, if_pos e] at h2
      exact h2
    · rw [if_neg e, app_sl]; exact h.slots t
  rows := fun id x hx => by
    rcases late_rows hp hx p.N with e | e
    · exact h.rows id x e
    · exact hz.rows id x e.2
  boxes := fun id x hx => by
    rcases late_box hp hx p.N with e | e
    · exact h.boxes id x e
    · exact hz.boxes id x e.2
  nests := fun id x hx => h.nests id x (late_nest hp hx)
  idn := fun id x hx => h.idn id x (late_nest hp hx)
  ownlt := h.ownlt
  keep := h.keep
  size := h.size
  arg := h.arg
  defers := h.defers
  idr := fun id x hx => by
    rcases late_rows hp hx p.N with e | e
    · exact h.idr id x e
    · exact hz.idr id x e.2
  idb := fun id x hx => by
    rcases late_box hp hx p.N with e | e
    · exact h.idb id x e
    · exact hz.idb id x e.2
  glob := h.glob
theorem syncSt_nx : ∀ (pd : List Pe) (S : St), (syncSt pd S).nx = S.nx
  | [], S => rfl
  | p :: r, S => by
    show ((syncSt r S).app p.q p.δ).nx = _
    rw [nx_app, syncSt_nx r S]
theorem syncSt_sl {cl : Nat → Bool} : ∀ (pd : List Pe) (S : St), (∀ p ∈ pd, cl p.dst = false) → ∀ t, cl t = true → (syncSt pd S).sl t = S.sl t
  | [], S, _, t, _ => rfl
  | p :: r, S, h, t, ht => by
    show sel t p.dst p.δ.v (((syncSt r S).app p.q p.δ).sl t) = _
    rw [sel_eq, if_neg (fun e => by subst e; rw [h p (by simp)] at ht; cases ht), app_sl]
    exact syncSt_sl r S (fun p hp => h p (List.mem_cons_of_mem _ hp)) t ht
theorem sync_rel : ∀ (pd : List Pe) (S : St), (∀ p ∈ pd, lateOk p.δ = true ∧ RelE C p.Z E a) → RelE C S E a → RelE C (syncSt pd S) E a
  | [], S, _, h => h
  | p :: r, S, hz, h => sync_one (hz p (by simp)).1 (hz p (by simp)).2 (sync_rel r S (fun p hp => hz p (List.mem_cons_of_mem _ hp)) h)
/-- Where a way stands, with what waits. -/
structure AtP (C : Ctx) (T : Tys) (D : FuncId → Nat → Option Den) (n : NS) (ops : Array Oper) (E0 : Env) (rw : Nat → Option RowC) (bx : Nat → Option BoxC) (q0 : Nat) (X : List (Nat ⊕ Nat)) (pd : List Pe) (dn : Nat → Bool) (S : St) (cl : Nat → Bool) (E : Env) (a : Act) : Prop where
  at2 : At2 C E0 rw bx q0 X S cl E a
  pe : ∀ p ∈ pd, PeOk C T D n ops S cl E a (dn p.i) p
  dis : pd.Pairwise (fun p p' => p.i ≠ p'.i ∧ p'.q + 8 ≤ p.q ∧ p.dst ≠ p'.dst ∧ opMask p'.o p.dst = false ∧ opMask p.o p'.dst = false)
theorem pair_of {β : Type} {Rr : β → β → Prop} : ∀ {l : List β}, l.Pairwise Rr → ∀ {x y : β}, x ∈ l → y ∈ l → x = y ∨ Rr x y ∨ Rr y x
  | [], _, x, y, hx, _ => by simp at hx
  | z :: l, h, x, y, hx, hy => by
    rw [List.pairwise_cons] at h
    rcases List.mem_cons.1 hx with hx' | hx'
    · rcases List.mem_cons.1 hy with hy' | hy'
      · exact .inl (hx'.trans hy'.symm)
      · exact .inr (.inl (hx' ▸ h.1 y hy'))
    · rcases List.mem_cons.1 hy with hy' | hy'
      · exact .inr (.inr (hy' ▸ h.1 x hx'))
      · exact pair_of h.2 hx' hy'
theorem peQ_mem : ∀ {pd : List Pe} {p : Pe}, p ∈ pd → p.q ∈ peQ pd
  | [], _, h => by simp at h
  | x :: r, p, h => by
    unfold peQ
    rcases List.mem_cons.1 h with rfl | h
    · simp
    · exact List.mem_cons_of_mem _ (peQ_mem h)
theorem prot_of {dst : Option Nat} : ∀ {Dd : List Nat}, protB ops dst Dd = true → ∀ {e : Nat} {o : Oper}, e ∈ Dd → ops[e]? = some o → neO dst o.dst = true ∧ maskO o dst = false
  | [], _, e, o, he, _ => by simp at he
  | x :: Dd, h, e, o, he, ho => by
    simp only [protB, Bool.and_eq_true] at h
    rcases List.mem_cons.1 he with rfl | he
    · rw [ho] at h
      simp only [Bool.and_eq_true, Bool.not_eq_true'] at h
      exact h.1
    · exact prot_of h.2 he ho
theorem noRead_of {o : Oper} : ∀ {Dd : List Nat}, noRead ops o Dd = true → ∀ {e : Nat} {o' : Oper}, e ∈ Dd → ops[e]? = some o' → maskO o o'.dst = false
  | [], _, e, o', he, _ => by simp at he
  | x :: Dd, h, e, o', he, ho => by
    simp only [noRead, Bool.and_eq_true] at h
    rcases List.mem_cons.1 he with rfl | he
    · rw [ho] at h
      simpa using h.1
    · exact noRead_of h.2 he ho
theorem neO_of {a b : Nat} {x : Option Nat} (h : neO x (some b) = true) : some b ≠ x := by
  rintro rfl
  simp [neO] at h
/-- Another operation: all that wait stay as they are. -/
theorem AtP.move {pd : List Pe} {dn : Nat → Bool} {S S' : St} {cl cl' : Nat → Bool} {E' : Env} {a' : Act} {i : Nat} (h : AtP C T D n ops E0 rw bx q0 X pd dn S cl E a) (hp : protB ops (dstOf ops i) (pd.map (·.i)) = true) (h2 : At2 C E0 rw bx q0 X S' cl' E' a') (hm : Mv C (dstOf ops i) (peQ pd) S S' cl cl' E E' a a') : AtP C T D n ops E0 rw bx q0 X pd dn S' cl' E' a' where
  at2 := h2
  dis := h.dis
  pe := fun p hpd => by
    have hpe := h.pe p hpd
    obtain ⟨k1, k2⟩ := prot_of hp (List.mem_map.2 ⟨p, hpd, rfl⟩) hpe.op
    rw [hpe.ds] at k1
    obtain ⟨tc, fz, f1, f2⟩ := hm.fr
    exact hpe.keep (neO_of (a := 0) k1) (fun t ht => by rw [ht] at k2; exact k2) hm.act hm.sl hm.cl hm.nx f1 (awayL_mem f2 (peQ_mem hpd) p.q (Nat.le_refl _) (by omega)) (fun id h1 h3 h4 => by
      rcases hm.live id h4 with h5 | h5
      · exact h5
      · have := hpe.qlt; omega) h2.rel
/-- One that waits comes up. -/
theorem AtP.late (hP : C.P = P) (hG : C.gl = T.gl) (hT : TyOk P T) (hD : DenOk P T.gl D) (hn : C.n = n) {pd : List Pe} {dn : Nat → Bool} {S : St} {cl : Nat → Bool} (h : AtP C T D n ops E0 rw bx q0 X pd dn S cl E a) {e : Nat} (he : e ∈ (pd.map (·.i)).filter (fun i => !dn i)) {K' : Act → World → Prop}
    (hq : ∀ E' a', AtP C T D n ops E0 rw bx q0 X pd (fun i => dn i || Nat.beq i e) S cl E' a' → K' a' E'.w) : wpOp P ops Q e K' a E.w := by
  rw [List.mem_filter] at he
  obtain ⟨p, hpd, rfl⟩ := List.mem_map.1 he.1
  have hdn : dn p.i = false := by simpa using he.2
  have hpe := h.pe p hpd
  rw [hdn] at hpe
  refine late_run hP hG hT hD hn hpe h.at2 (fun E' v k1 k2 k3 k4 => hq E' _ ⟨k1, fun p' hpd' => ?_, h.dis⟩)
  have hpe' := h.pe p' hpd'
  rcases pair_of h.dis hpd hpd' with e | e
  · subst e
    simp only [Nat.beq_refl, Bool.or_true]
    exact { hpe with st := by rw [if_pos rfl]; exact k2 }
  · have hne : p'.i ≠ p.i ∧ p.dst ≠ p'.dst ∧ opMask p'.o p.dst = false ∧ (p'.q + 8 ≤ p.q ∨ p.q + 8 ≤ p'.q) := by
      rcases e with e | e
      · exact ⟨fun x => e.1 x.symm, e.2.2.1, e.2.2.2.1, .inl e.2.1⟩
      · exact ⟨e.1, fun x => e.2.2.1 x.symm, e.2.2.2.2, .inr e.2.1⟩
    have hb : Nat.beq p'.i p.i = false := by cases hb : Nat.beq p'.i p.i with | false => rfl | true => exact absurd (Nat.eq_of_beq_eq_true hb) hne.1
    simp only [hb, Bool.or_false]
    exact hpe'.keep (dst := some p.dst) (fun x => hne.2.1 (Option.some.inj x).symm) (fun t ht => by cases ht; exact hne.2.2.1) ⟨v, rfl⟩ (fun t _ ht => ht) (fun t _ => rfl) (Nat.le_refl _) k3 (by simp) (fun id h1 h2 h3 => by
      rcases k4 id h3 with h5 | h5
      · exact h5
      · have := hne.2.2.2; omega) k1.rel
def jn : Option Nat → Nat
  | none => 0
  | some _ => 1
theorem filter_late {l : List Nat} {dn : Nat → Bool} {e : Nat} : l.filter (fun i => !(dn i || Nat.beq i e)) = (l.filter (fun i => !dn i)).filter (fun i => !Nat.beq i e) := by
  rw [List.filter_filter]
  congr 1
  funext i
  cases dn i <;> cases Nat.beq i e <;> rfl
theorem filter_lt {l : List Nat} {e : Nat} (he : e ∈ l) : (l.filter (fun i => !Nat.beq i e)).length < l.length := by
  apply Nat.lt_of_le_of_ne (List.length_filter_le _ _)
  intro h
  have := List.length_filter_eq_length_iff.1 h e he
  simp at this
/-- Where a way stops until what waits has come up: each of these may come up now. -/
theorem wait_ok (hP : C.P = P) (hG : C.gl = T.gl) (hT : TyOk P T) (hD : DenOk P T.gl D) (hn : C.n = n) {pd : List Pe} {S : St} {cl : Nat → Bool} {L : Array Bool} (hL : ∀ e ∈ pd.map (·.i), L[e]? = some true) {f : Nat} {j : Option Nat}
    (hr : ∀ D' ∈ subs (pd.map (·.i)), (D' = [] ∧ j = none) ∨ (Region.ready .any ops (unl L D') ≠ [] ∧ ∀ i ∈ Region.ready .any ops (unl L D'), j = some i ∨ i ∈ D'))
    (go : ∀ {E : Env} {a : Act} {dn : Nat → Bool} {F : Nat}, AtP C T D n ops E0 rw bx q0 X pd dn S cl E a → (match j with
      | none => (pd.map (·.i)).filter (fun i => !dn i) = [] → f ≤ F → wpAnyH P .any ops Q (Held C E0 X) F L a E.w
      | some i => f + ((pd.map (·.i)).filter (fun i => !dn i)).length ≤ F → wpOp P ops Q i (fun a' w' => Held C E0 X w' ∧ wpAnyH P .any ops Q (Held C E0 X) F ((unl L ((pd.map (·.i)).filter (fun i => !dn i))).setIfInBounds i true) a' w') a E.w)) :
    ∀ (m : Nat) {E : Env} {a : Act} {dn : Nat → Bool} {F : Nat}, ((pd.map (·.i)).filter (fun i => !dn i)).length = m → AtP C T D n ops E0 rw bx q0 X pd dn S cl E a → (f + jn j) + m ≤ F → wpAnyH P .any ops Q (Held C E0 X) F (unl L ((pd.map (·.i)).filter (fun i => !dn i))) a E.w := by
  intro m
  induction m using Nat.strongRecOn with
  | ind m ih =>
    intro E a dn F hm h hF
    have late : ∀ {e : Nat} {F' : Nat}, e ∈ (pd.map (·.i)).filter (fun i => !dn i) → (f + jn j) + m ≤ F' + 1 → wpOp P ops Q e (fun a' w' => Held C E0 X w' ∧ wpAnyH P .any ops Q (Held C E0 X) F' ((unl L ((pd.map (·.i)).filter (fun i => !dn i))).setIfInBounds e true) a' w') a E.w := fun {e F'} he hF' => by
      refine AtP.late hP hG hT hD hn h he (fun E' a' k => ⟨k.at2.since.held, ?_⟩)
      rw [unl_done (hL e (List.mem_filter.1 he).1)]
      have hlt := filter_lt he
      have := ih _ (by rw [← hm]; exact hlt) (E := E') (a := a') (dn := fun i => dn i || Nat.beq i e) (F := F') (by rw [filter_late]) k (by omega)
      rw [filter_late] at this
      exact this
    rcases hr _ (filter_subs (fun i => !dn i) (pd.map (·.i))) with ⟨h1, h2⟩ | ⟨h1, h2⟩
    · subst h2
      have g := go (F := F) h
      rw [h1]
      exact g h1 (by simp only [jn] at hF; omega)
    · cases F with
      | zero =>
        exfalso
        cases j with
        | some i => simp only [jn] at hF; omega
        | none =>
          have : (pd.map (·.i)).filter (fun i => !dn i) = [] := List.eq_nil_of_length_eq_zero (by omega)
          rw [this] at h1 h2
          cases hc : Region.ready .any ops (unl L []) with
          | nil => exact h1 hc
          | cons x l =>
            have := h2 x (by rw [hc]; simp)
            simp at this
      | succ F' =>
        refine wpAnyH_all rfl h1 (fun i hi => ?_)
        rcases h2 i hi with rfl | hm'
        · exact (go (F := F') h) (by simp only [jn] at hF; omega)
        · exact late hm' hF
theorem path_ok (hP : C.P = P) (hG : C.gl = T.gl) (hT : TyOk P T) (hD : DenOk P T.gl D) (hn : C.n = n) (hns : Region.noSelect ops = true) (hq0 : ∀ id, q0 ≤ id → ¬ E0.live id) (hnp : ∀ c a w, ¬ Q (.panic c) a w) :
    ∀ (p : List (Way × Nat)) {f F : Nat} {L : Array Bool} {S : St} {E : Env} {a : Act} {cl : Nat → Bool} {pd : List Pe} {dn : Nat → Bool} {K : St → Option R}, pathOk ops p f L (pd.map (·.i)) = true → (∀ e ∈ pd.map (·.i), L[e]? = some true) → AtP C T D n ops E0 rw bx q0 X pd dn S cl E a →
      runPath T D n ops X rw bx p cl pd S K = some r → (∀ S' E' a', K S' = some r → RelE C S' E' a' → Fresh S' E' → Q .normal a' E'.w) → f + ((pd.map (·.i)).filter (fun i => !dn i)).length ≤ F → wpAnyH P .any ops Q (Held C E0 X) F (unl L ((pd.map (·.i)).filter (fun i => !dn i))) a E.w
  | [], f, F, L, S, E, a, cl, pd, dn, K, hp, hL, h, hK, hq, hF => by
    cases pd with
    | nil => exact wpAnyH_done (by simpa [pathOk, unl] using hp) (hq S E a hK h.at2.rel h.at2.fresh) F
    | cons x pd => simp [pathOk] at hp
  | (.sync, i) :: p, f, F, L, S, E, a, cl, pd, dn, K, hp, hL, h, hK, hq, hF => by
    have hp' : ((subs (pd.map (·.i))).all (fun D' => isNilL D' || (!(Region.ready .any ops (unl L D')).isEmpty && (Region.ready .any ops (unl L D')).all (fun j => memL j D'))) && pathOk ops p f L []) = true := by
      cases f <;> exact hp
    rw [Bool.and_eq_true, List.all_eq_true] at hp'
    refine wait_ok hP hG hT hD hn hL (f := f) (j := none) (S := S) (cl := cl) (fun D' hD' => ?_) (fun {E a dn F} h => fun h1 h2 => ?_) _ rfl h (by simpa [jn] using hF)
    · have := hp'.1 D' hD'
      cases D' with
      | nil => exact .inl ⟨rfl, rfl⟩
      | cons x l =>
        simp only [isNilL, Bool.false_or, Bool.and_eq_true, Bool.not_eq_true', List.all_eq_true] at this
        exact .inr ⟨fun e => by rw [e] at this; simp at this, fun j hj => .inr (memL_mem.1 (this.2 j hj))⟩
    · have hall : ∀ p ∈ pd, RelE C p.Z E a := fun p' hpd => by
        have hst := (h.pe p' hpd).st
        cases hd : dn p'.i with
        | true => rw [hd, if_pos rfl] at hst; exact hst
        | false =>
          have : p'.i ∈ (pd.map (·.i)).filter (fun i => !dn i) := List.mem_filter.2 ⟨List.mem_map.2 ⟨p', hpd, rfl⟩, by rw [hd]; rfl⟩
          rw [h1] at this
          simp at this
      have hS : AtP C T D n ops E0 rw bx q0 X [] (fun _ => true) (syncSt pd S) cl E a := ⟨⟨sync_rel pd S (fun p' hpd => ⟨(h.pe p' hpd).ok, hall p' hpd⟩) h.at2.rel, fun id hid => h.at2.fresh id (by rw [syncSt_nx] at hid; exact hid), by rw [syncSt_nx]; exact h.at2.nx, by
          have e : clSl cl (syncSt pd S).sl = clSl cl S.sl := funext fun t => by
            unfold clSl
            cases hc : cl t with
            | false => rfl
            | true => exact syncSt_sl pd S (fun p' hpd => (h.pe p' hpd).cln) t hc
          have := h.at2.old
          unfold Old at this ⊢
          rw [e]; exact this, h.at2.since⟩, fun p hp => by simp at hp, List.Pairwise.nil⟩
      exact path_ok hP hG hT hD hn hns hq0 hnp p (pd := []) hp'.2 (by simp) hS hK hq (by simpa using h2)
  | (.late, i) :: p, 0, F, L, S, E, a, cl, pd, dn, K, hp, hL, h, hK, hq, hF => by simp [pathOk] at hp
  | (.step, i) :: p, 0, F, L, S, E, a, cl, pd, dn, K, hp, hL, h, hK, hq, hF => by simp [pathOk] at hp
  | (.cur, i) :: p, 0, F, L, S, E, a, cl, pd, dn, K, hp, hL, h, hK, hq, hF => by simp [pathOk] at hp
  | (.mem, i) :: p, 0, F, L, S, E, a, cl, pd, dn, K, hp, hL, h, hK, hq, hF => by simp [pathOk] at hp
  | (.late, i) :: p, f + 1, F, L, S, E, a, cl, pd, dn, K, hp, hL, h, hK, hq, hF => by
    simp only [pathOk, Bool.and_eq_true, Bool.not_eq_true'] at hp
    obtain ⟨hp1, hp2, hp3, hp4, hp5⟩ := hp
    have hLi : L[i]? = some false := by
      split at hp1
      · assumption
      · cases hp1
    have hiD : i ∉ pd.map (·.i) := fun e => by rw [memL_mem.2 e] at hp2; cases hp2
    have hK0 : lateK T D n ops i S (fun p' S' => runPath T D n ops X rw bx p (setCl (some p'.dst) false cl) (p' :: pd) S' K) = some r := hK
    unfold lateK at hK0
    split at hK0
    · cases hK0
    · rename_i o hoi
      split at hK0
      · rename_i d hg hd hlt
        obtain ⟨δ, hK0, hev⟩ := evalQ_late hlt hK0
        · skip
          split at hK0
          · rename_i hlo
            unfold putK at hK0
            simp only at hK0
            split at hK0
            · rename_i hd1 hd2
              have hd1' : d < n.hi := by simpa [Nat.blt_eq] using hd1
              have hdok : DstOk n (some d) := fun d' hd' => by cases hd'; exact ⟨hd1', hd2⟩
              have hdst : dstOf ops i = some d := by rw [dstOf_eq hoi, hd]
              rw [hoi] at hp4
              simp only at hp4
              -- the state with nothing in the place
              have hrel : RelE C (S.bump.set d (.one .undef)) E a := { h.at2.rel with
                slots := fun t => by
                  show SLR C E (sel t d (.one .undef) (S.sl t)) _
                  rw [sel_eq]
                  by_cases e : t = d
                  · rw [if_pos e]; trivial
                  · rw [if_neg e]; exact h.at2.rel.slots t
                rows := h.at2.rel.rows
                boxes := h.at2.rel.boxes
                idr := h.at2.rel.idr
                idb := h.at2.rel.idb }
              have hsl : ∀ t, S.sl t = .one .undef → (S.bump.set d (.one .undef)).sl t = .one .undef := fun t ht => by
                show sel t d (.one .undef) (S.sl t) = _
                rw [sel_eq]
                by_cases e : t = d
                · rw [if_pos e]
                · rw [if_neg e]; exact ht
              have hcl : ∀ t, t ≠ d → setCl (some d) false cl t = cl t := fun t ht => sel_false false t (fun e => ht (by cases e; rfl))
              have hcld : setCl (some d) false cl d = false := by show sel d d false (cl d) = false; rw [sel_eq, if_pos rfl]
              have hold : Old C E0 rw bx q0 (setCl (some d) false cl) (S.bump.set d (.one .undef)).sl a := { h.at2.old with
                slots := fun t => by
                  show SLR C E0 (clSl (setCl (some d) false cl) (fun t => sel t d (.one .undef) (S.sl t)) t) _
                  unfold clSl
                  by_cases e : t = d
                  · subst e; rw [hcld]; trivial
                  · rw [hcl t e]
                    have := h.at2.old.slots t
                    have h2 : SLR C E0 (clSl cl S.sl t) (a.tmps.getD t undef) := this
                    unfold clSl at h2
                    cases hc : cl t with
                    | false => trivial
                    | true =>
                      rw [hc] at h2
                      simp only at h2 ⊢
                      rw [sel_eq, if_neg e]; exact h2
                rows := h.at2.old.rows
                boxes := h.at2.old.boxes
                idr := h.at2.old.idr
                idb := h.at2.old.idb }
              have hA : AtP C T D n ops E0 rw bx q0 X (⟨i, S.nx, d, o, clSl (opMask o) S.sl, δ⟩ :: pd) (fun j => dn j && !Nat.beq j i) (S.bump.set d (.one .undef)) (setCl (some d) false cl) E a := {
                at2 := ⟨hrel, fun id hid => h.at2.fresh id (by have : S.nx + 8 ≤ id := hid; omega), by have := h.at2.nx; show q0 ≤ S.nx + 8; omega, hold, h.at2.since⟩
                pe := fun p' hpd => by
                  rcases List.mem_cons.1 hpd with rfl | hpd
                  · refine ⟨hoi, hg, hd, hdok, hev, hlo, fun t ht => ?_, ?_, hcld, Nat.le_refl _, ?_⟩
                    · show clSl (opMask o) S.sl t = _
                      unfold clSl
                      have ht' : opMask o t = false := ht
                      rw [ht']
                    · show sel d d (.one .undef) (S.sl d) = _
                      rw [sel_eq, if_pos rfl]
                    · simp only [Nat.beq_refl, Bool.not_true, Bool.and_false]
                      rw [if_neg (by simp)]
                      refine ⟨{ h.at2.rel with
                        slots := fun t => ?_
                        rows := fun id x hx => by cases hx
                        boxes := fun id x hx => by cases hx
                        nests := fun id x hx => by cases hx
                        idn := fun id x hx => by cases hx
                        idr := fun id x hx => by cases hx
                        idb := fun id x hx => by cases hx }, fun id h1 h2 => h.at2.fresh id h1⟩
                      show SLR C E (clSl (opMask o) S.sl t) _
                      unfold clSl
                      split
                      · exact h.at2.rel.slots t
                      · trivial
                  · have hpe := h.pe p' hpd
                    have hne : p'.i ≠ i := fun e => hiD (by rw [← e]; exact List.mem_map.2 ⟨p', hpd, rfl⟩)
                    have hb : Nat.beq p'.i i = false := by cases hb : Nat.beq p'.i i with | false => rfl | true => exact absurd (Nat.eq_of_beq_eq_true hb) hne
                    simp only [hb, Bool.not_false, Bool.and_true]
                    obtain ⟨k1, k2⟩ := prot_of hp3 (List.mem_map.2 ⟨p', hpd, rfl⟩) hpe.op
                    rw [hpe.ds, hdst] at k1
                    have hne2 : p'.dst ≠ d := fun e => neO_of (a := 0) k1 (by rw [e])
                    exact { hpe with
                      und := hsl _ hpe.und
                      cln := by rw [hcl _ hne2]; exact hpe.cln
                      qlt := by have := hpe.qlt; show p'.q + 8 ≤ S.nx + 8; omega }
                dis := by
                  rw [List.pairwise_cons]
                  refine ⟨fun p' hpd => ?_, h.dis⟩
                  have hpe := h.pe p' hpd
                  obtain ⟨k1, k2⟩ := prot_of hp3 (List.mem_map.2 ⟨p', hpd, rfl⟩) hpe.op
                  rw [hpe.ds, hdst] at k1
                  have k3 := noRead_of hp4 (List.mem_map.2 ⟨p', hpd, rfl⟩) hpe.op
                  rw [hpe.ds] at k3
                  rw [hdst] at k2
                  exact ⟨fun e => hiD (List.mem_map.2 ⟨p', hpd, e.symm⟩), hpe.qlt, fun e => neO_of (a := 0) k1 (by show some p'.dst = some d; rw [← e]), k2, k3⟩ }
              have hfl : ((⟨i, S.nx, d, o, clSl (opMask o) S.sl, δ⟩ :: pd : List Pe).map (·.i)).filter (fun j => !(dn j && !Nat.beq j i)) = i :: (pd.map (·.i)).filter (fun j => !dn j) := by
                rw [List.map_cons, List.filter_cons, if_pos (by simp)]
                congr 1
                apply List.filter_congr
                intro j hj
                have hne : j ≠ i := fun e => hiD (e ▸ hj)
                have hb : Nat.beq j i = false := by cases hb : Nat.beq j i with | false => rfl | true => exact absurd (Nat.eq_of_beq_eq_true hb) hne
                simp [hb]
              have := path_ok hP hG hT hD hn hns hq0 hnp p (F := F) hp5 (fun e he => by
                have hi : i < L.size := by
                  rcases Nat.lt_or_ge i L.size with h | h
                  · exact h
                  · rw [Array.getElem?_eq_none h] at hLi; cases hLi
                rw [Array.getElem?_setIfInBounds]
                by_cases hie : i = e
                · subst hie; simp [hi]
                · rw [if_neg hie]
                  rcases List.mem_cons.1 he with rfl | he
                  · exact absurd rfl hie
                  · exact hL e he) hA hK0 hq (by rw [hfl, List.length_cons]; omega)
              rw [hfl, unl_late hLi] at this
              exact this
            · cases hK0
          · cases hK0
      · cases hK0
  | (.step, i) :: p, f + 1, F, L, S, E, a, cl, pd, dn, K, hp, hL, h, hK, hq, hF => by
    simp only [pathOk, Bool.and_eq_true, Bool.not_eq_true', List.all_eq_true] at hp
    obtain ⟨hp1, hp2, hp3, hp4⟩ := hp
    have hiD : i ∉ pd.map (·.i) := fun e => by rw [memL_mem.2 e] at hp1; cases hp1
    refine wait_ok hP hG hT hD hn hL (f := f) (j := some i) (S := S) (cl := cl) (fun D' hD' => ?_) (fun {E a dn F} h => fun hF => ?_) _ rfl h (by simp only [jn]; omega)
    · obtain ⟨h1, h2⟩ := hp3 D' hD'
      refine .inr ⟨fun e => by rw [e] at h1; simp at h1, fun j hj => ?_⟩
      have := h2 j hj
      rw [Bool.or_eq_true] at this
      rcases this with g | g
      · exact .inl (by rw [Nat.eq_of_beq_eq_true g])
      · exact .inr (memL_mem.1 g)
    · refine node_step hP hG hT hD hn h.at2 hK (fun S' cl' E' a' k1 k2 k3 => ⟨k2.since.held, ?_⟩)
      rw [unl_set (fun e => hiD (List.mem_filter.1 e).1)]
      exact path_ok hP hG hT hD hn hns hq0 hnp p hp4 (fun e he => by
        rw [Array.getElem?_setIfInBounds, if_neg (fun x : i = e => hiD (by rw [x]; exact he))]; exact hL e he) (h.move hp2 k2 k3) k1 hq hF
  | (.cur, i) :: p, f + 1, F, L, S, E, a, cl, pd, dn, K, hp, hL, h, hK, hq, hF => by
    simp only [pathOk, Bool.and_eq_true, Bool.not_eq_true', List.all_eq_true] at hp
    obtain ⟨hp1, hp2, hp3, hp4⟩ := hp
    have hiD : i ∉ pd.map (·.i) := fun e => by rw [memL_mem.2 e] at hp1; cases hp1
    obtain ⟨g1, g2⟩ := hp3 _ (filter_subs (fun i => !dn i) (pd.map (·.i)))
    cases F with
    | zero => omega
    | succ F =>
      refine node_take hP hG hT hD hn hns hq0 hnp (.inl rfl) g1 g2 h.at2 hK (fun S' cl' E' a' k1 k2 k3 => ?_)
      rw [unl_set (fun e => hiD (List.mem_filter.1 e).1)]
      exact path_ok hP hG hT hD hn hns hq0 hnp p hp4 (fun e he => by
        rw [Array.getElem?_setIfInBounds, if_neg (fun x : i = e => hiD (by rw [x]; exact he))]; exact hL e he) (h.move hp2 k2 k3) k1 hq (by omega)
  | (.mem, i) :: p, f + 1, F, L, S, E, a, cl, pd, dn, K, hp, hL, h, hK, hq, hF => by
    simp only [pathOk, Bool.and_eq_true, Bool.not_eq_true', List.all_eq_true] at hp
    obtain ⟨hp1, hp2, hp3, hp4⟩ := hp
    have hiD : i ∉ pd.map (·.i) := fun e => by rw [memL_mem.2 e] at hp1; cases hp1
    obtain ⟨g1, g2⟩ := hp3 _ (filter_subs (fun i => !dn i) (pd.map (·.i)))
    cases F with
    | zero => omega
    | succ F =>
      refine node_take hP hG hT hD hn hns hq0 hnp (.inr rfl) g1 g2 h.at2 hK (fun S' cl' E' a' k1 k2 k3 => ?_)
      rw [unl_set (fun e => hiD (List.mem_filter.1 e).1)]
      exact path_ok hP hG hT hD hn hns hq0 hnp p hp4 (fun e he => by
        rw [Array.getElem?_setIfInBounds, if_neg (fun x : i = e => hiD (by rw [x]; exact he))]; exact hL e he) (h.move hp2 k2 k3) k1 hq (by omega)
end
end Go.Proofs.YtlioalaehkohlaaDoor.Vm
