/- Regions and bodies. Conditions: as each theorem states them. -/
import Derived.Test.YtlioalaehkohlaaDoorVN
import Derived.OrdersHeld
import Derived.Deep.RegionHeld3
namespace Go.Proofs.YtlioalaehkohlaaDoor.Vm
open Go Go.RowKit
set_option linter.unusedVariables false
set_option linter.unusedSimpArgs false
def Fresh (S : St) (E : Env) : Prop := ∀ id, S.nx ≤ id → ¬ E.live id
theorem nx_addRows : ∀ (l : List RowC) (S : St) (q : Nat), (S.addRows q l).nx = S.nx
  | [], _, _ => rfl
  | r :: l, S, q => (nx_addRows l (S.newRow q r) (q + 1)).trans rfl
theorem nx_addBoxes : ∀ (l : List BoxC) (S : St) (q : Nat), (S.addBoxes q l).nx = S.nx
  | [], _, _ => rfl
  | r :: l, S, q => (nx_addBoxes l (S.newBox q r) (q + 1)).trans rfl
theorem nx_upd : ∀ (l : List (Nat × BoxC)) (S : St), (S.upd l).nx = S.nx
  | [], _ => rfl
  | b :: l, S => (nx_upd l (S.newBox b.1 b.2)).trans rfl
theorem nx_puts : ∀ (l : List (Nat × RowC)) (S : St), (S.puts l).nx = S.nx
  | [], _ => rfl
  | b :: l, S => (nx_puts l (S.newRow b.1 b.2)).trans rfl
theorem nx_kills : ∀ (l : List Nat) (S : St), (S.kills l).nx = S.nx
  | [], _ => rfl
  | b :: l, S => (nx_kills l (S.kill b)).trans rfl
theorem nx_killsB : ∀ (l : List Nat) (S : St), (S.killsB l).nx = S.nx
  | [], _ => rfl
  | b :: l, S => (nx_killsB l (S.killB b)).trans rfl
theorem nx_app (S : St) (q : Nat) (δ : Dl) : (S.app q δ).nx = S.nx := by
  unfold St.app
  rw [putN_nx, nx_upd, nx_addBoxes, nx_puts, nx_addRows, nx_killsB, nx_kills, nx_frs]
theorem memI_mem {i : Nat ⊕ Nat} : ∀ {l : List (Nat ⊕ Nat)}, memI i l = true ↔ i ∈ l
  | [] => by simp [memI]
  | y :: r => by
    simp only [memI, Bool.or_eq_true, memI_mem (l := r), sameI_iff, List.mem_cons]
    constructor
    · rintro (h | h)
      · exact .inl h.symm
      · exact .inr h
    · rintro (h | h)
      · exact .inl h.symm
      · exact .inr h
theorem apartI_mem {X : List (Nat ⊕ Nat)} : ∀ {l : List (Nat ⊕ Nat)}, apartI X l = true → ∀ i ∈ l, i ∉ X
  | [], _, i, hi => by simp at hi
  | y :: r, h, i, hi => by
    simp only [apartI, Bool.and_eq_true, Bool.not_eq_true'] at h
    rcases List.mem_cons.1 hi with rfl | hi
    · intro hm
      rw [memI_mem.2 hm] at h
      cases h.1
    · exact apartI_mem h.2 i hi
section
variable {C : Ctx} {S : St} {E : Env} {a : Act} {R : Type} {T : Tys} {D : FuncId → Nat → Option Den} {r : R} {P : Program} {Q : Exit → Act → World → Prop}
theorem RelE.bump (h : RelE C S E a) : RelE C S.bump E a := { h with slots := h.slots, rows := h.rows, boxes := h.boxes, idr := h.idr, idb := h.idb }
def DstOk (n : NS) (dst : Option Tmp) : Prop := ∀ d, dst = some d → d < n.hi ∧ n.ar.contains d = false
/-- A value is laid into its place. -/
theorem putK_ok {n : NS} (hn : C.n = n) {dst : Option Tmp} {s : SL} {v : Value} {K : St → Option R} (h : RelE C S E a) (hs : SLR C E s v) (hK : putK n dst s S K = some r) : ∃ S', K S' = some r ∧ RelE C S' E (a.put dst v) ∧ S'.nx = S.nx ∧ DstOk n dst ∧ S'.sl = setSl dst s S.sl := by
  cases dst with
  | none => exact ⟨S, hK, h, rfl, fun d hd => (by cases hd), rfl⟩
  | some d =>
    unfold putK at hK
    simp only at hK
    split at hK
    · rename_i hd hda
      have hd' : d < n.hi := by simpa [Nat.blt_eq] using hd
      exact ⟨_, hK, h.set (by rw [hn]; exact hd') (by rw [hn]; exact hda) hs, rfl, fun d' he => (by cases he; exact ⟨hd', hda⟩), rfl⟩
    · cases hK
/-- What holds behind a step: X: what it leaves alone; ps: what is set aside. -/
def After (C : Ctx) (R : Type) (r : R) (E : Env) (n : NS) (a : Act) (o : Oper) (S : St) (X : List (Nat ⊕ Nat)) (ps : List Nat) (K : St → Option R) : Act → World → Prop := fun a' w' => ∃ S' E' v, K S' = some r ∧ E'.w = w' ∧ RelE C S' E' a' ∧ Fresh S' E' ∧ (a' = a.put o.dst v ∧ S.nx ≤ S'.nx) ∧ DstOk n o.dst ∧ (∀ t, some t ≠ o.dst → S'.sl t = S.sl t) ∧ ∃ tc fz, (∀ i ∈ tc, i ∉ X) ∧ Fr C E E' tc fz ∧ (∀ id, E'.live id → E.live id ∨ S.nx ≤ id) ∧ awayL tc fz ps = true
theorem addRows_sl : ∀ (l : List RowC) (S : St) (q : Nat), (S.addRows q l).sl = S.sl
  | [], _, _ => rfl
  | r :: l, S, q => (addRows_sl l (S.newRow q r) (q + 1)).trans rfl
theorem addBoxes_sl : ∀ (l : List BoxC) (S : St) (q : Nat), (S.addBoxes q l).sl = S.sl
  | [], _, _ => rfl
  | r :: l, S, q => (addBoxes_sl l (S.newBox q r) (q + 1)).trans rfl
theorem app_sl (S : St) (q : Nat) (δ : Dl) : (S.app q δ).sl = S.sl := by
  unfold St.app
  rw [putN_sl, upd_sl, addBoxes_sl, puts_sl, addRows_sl, killsB_sl, kills_sl, frs_sl]
theorem put_sl {S S' : St} {dst : Option Tmp} {s : SL} (h : S'.sl = setSl dst s S.sl) (t : Nat) (ht : some t ≠ dst) : S'.sl t = S.sl t := by
  rw [h]
  cases dst with
  | none => rfl
  | some d =>
    show sel t d s (S.sl t) = S.sl t
    rw [sel_eq, if_neg (fun e => ht (by rw [e]))]
theorem stepT_ok (hP : C.P = P) (hG : C.gl = T.gl) (hT : TyOk P T) (hD : DenOk P T.gl D) {n : NS} (hn : C.n = n) {o : Oper} {X : List (Nat ⊕ Nat)} {K : St → Option R} (h : RelE C S E a) (hf : Fresh S E) (hK : stepT T D n o S X K = some r) : o.wp P a E.w (After C R r E n a o S X [] K) Q := by
  have evalCase : ∀ {K' : Dl → Option R}, K' = (fun δ => match apartI X δ.tc with | true => putK n o.dst δ.v (S.app S.nx δ).bump K | false => none) → evalQ T D o (opv S.sl) S.rows S.box S.nx K' = some r → o.wp P a E.w (After C R r E n a o S X [] K) Q := by
    intro K' hK' hE
    obtain ⟨δ, g1, g2⟩ := evalQ_ok hP hG hT hD h (fun id h1 h2 => hf id h1) hE
    have g3 := g2.1 Q
    rw [hP] at g3
    refine Oper.wp_mono ?_ g3
    rintro a' w' ⟨v, E', rfl, rfl, e1, e2, e3, e4⟩
    rw [hK'] at g1
    simp only at g1
    split at g1
    · rename_i hap
      obtain ⟨S', k1, k2, k3, k4, k5⟩ := putK_ok hn e1.bump e2 g1
      have hnx : S'.nx = S.nx + 8 := by rw [k3]; show (S.app S.nx δ).nx + 8 = _; rw [nx_app]
      refine ⟨S', E', v, k1, rfl, k2, fun id hid hlv => ?_, ⟨rfl, by omega⟩, k4, fun t ht => (put_sl k5 t ht).trans (by show (S.app S.nx δ).sl t = _; rw [app_sl]), δ.tc, δ.fz, apartI_mem hap, e4, fun id hid => (e3 id hid).imp (fun h => h) (fun h => h.1), rfl⟩
      rcases e3 id hlv with e4 | e4
      · exact hf id (by omega) e4
      · omega
    · cases g1
  unfold stepT at hK
  split at hK
  · rename_i t x y ho
    split at hK
    · rename_i s1 s2 h1 h2
      split at hK
      · rename_i hap
        obtain ⟨S', E', k1, k2, k3, k4, k5, fz, k6⟩ := storeK_ok hP hT h (eval_one h h1) (eval_one h h2) hK
        obtain ⟨S2, l1, l2, l3, l4, l5⟩ := putK_ok hn (s := .one .undef) (v := undef) k4.bump trivial k1
        unfold Oper.wp
        have hrun : (execOp a.eval o).run P E.w = .ok .skip E'.w := by
          simp only [execOp, ho, Sem.run_bind, k3, Result.andThen_ok, Sem.run_pure]
        rw [hrun, Oper.upon_skip]
        have hnx : S2.nx = S.nx + 8 := by rw [l3]; show S'.nx + 8 = _; rw [k2.1]
        refine ⟨S2, E', undef, l1, rfl, l2, fun id hid hlv => ?_, ⟨rfl, by omega⟩, l4, fun t ht => (put_sl l5 t ht).trans (by show S'.sl t = _; rw [k2.2]), storeTc s1, fz, fun i hi => ?_, k6, fun id hid => .inl (by rw [k5] at hid; exact hid), rfl⟩
        · rw [k5] at hlv
          exact hf id (by omega) hlv
        · split at hap
          · simp only [storeTc, List.mem_singleton] at hi
            subst hi
            intro hm; rw [memI_mem.2 hm] at hap; cases hap
          · simp only [storeTc, List.mem_singleton] at hi
            subst hi
            intro hm; rw [memI_mem.2 hm] at hap; cases hap
          · simp only [storeTc, List.mem_singleton] at hi
            subst hi
            intro hm; rw [memI_mem.2 hm] at hap; cases hap
          · cases hap
      · cases hK
    · cases hK
  · rename_i xs ts ho
    split at hK
    · rename_i s1 s2 t u hxs hts
      have hargs : ∃ x y, xs = #[x, y] ∧ opv S.sl x = .one s1 ∧ opv S.sl y = .one s2 := by
        cases xs with
        | mk l =>
          rcases l with _ | ⟨x, _ | ⟨y, _ | ⟨z, l⟩⟩⟩
          · simp at hxs
          · simp at hxs
          · simp at hxs; exact ⟨x, y, rfl, hxs.1, hxs.2⟩
          · simp at hxs
      obtain ⟨x, y, rfl, hx, hy⟩ := hargs
      have htys : ts = #[t, u] := by cases ts; simp_all
      subst htys
      split at hK
      · rename_i hap
        obtain ⟨S', E', v', s', k1, k2, k3, k4, k5, k6, fz, k7⟩ := appendK_ok hP hT h (hf S.nx (Nat.le_refl _)) (eval_one h hx) (eval_one h hy) hK o.type
        obtain ⟨S2, l1, l2, l3, l4, l5⟩ := putK_ok hn (s := .one s') (v := v') k4.bump k5 k1
        unfold Oper.wp
        have hrun : (execOp a.eval o).run P E.w = .ok (.value v') E'.w := by
          simp [execOp, ho, resolve, invoke, builtin, k3]
        rw [hrun, Oper.upon_value]
        have hnx : S2.nx = S.nx + 8 := by rw [l3]; show S'.nx + 8 = _; rw [k2.1]
        refine ⟨S2, E', v', l1, rfl, l2, fun id hid hlv => ?_, ⟨rfl, by omega⟩, l4, fun t ht => (put_sl l5 t ht).trans (by show S'.sl t = _; rw [k2.2]), ?_⟩
        · rcases k6 id hlv with e4 | e4
          · omega
          · exact hf id (by omega) e4
        · cases s1 with
          | row id =>
            refine ⟨[.inl id], fz, fun i hi => ?_, k7, fun id hid => (k6 id hid).elim (fun h => .inr (by omega)) (fun h => .inl h), rfl⟩
            simp only [List.mem_singleton] at hi
            subst hi
            intro hm
            simp only [memI_mem.2 hm] at hap
            cases hap
          | _ =>
            refine ⟨[.inl S.nx], fz, fun i hi => ?_, k7, fun id hid => (k6 id hid).elim (fun h => .inr (by omega)) (fun h => .inl h), rfl⟩
            simp only [List.mem_singleton] at hi
            subst hi
            intro hm
            simp only [memI_mem.2 hm] at hap
            cases hap
      · cases hK
    · cases hK
  · exact evalCase rfl hK
theorem apartI_nil : ∀ l : List (Nat ⊕ Nat), apartI [] l = true
  | [] => rfl
  | y :: r => apartI_nil r
theorem stepT_of {n : NS} {o : Oper} {K : St → Option R} (hK : stepK0 T D n o S K = some r) : stepT T D n o S [] K = some r := by
  unfold stepK0 at hK
  unfold stepT
  split at hK
  · rename_i t x y ho
    split at hK
    · rename_i s1 s2 h1 h2
      cases s1 with
      | ptr b o => exact hK
      | elem id sz i o => exact hK
      | ael b o n sz i => exact hK
      | _ => simp [storeK] at hK
    · cases hK
  · rename_i xs ts ho
    split at hK
    · rename_i s1 s2 t u hxs hts
      cases s1 with
      | row id => exact hK
      | _ => exact hK
    · cases hK
  · rename_i hne1 hne2
    refine (congrArg (fun k => evalQ T D o (opv S.sl) S.rows S.box S.nx k) (funext fun δ => ?_)).trans hK
    rw [apartI_nil]
theorem stepK_ok (hP : C.P = P) (hG : C.gl = T.gl) (hT : TyOk P T) (hD : DenOk P T.gl D) {n : NS} (hn : C.n = n) {o : Oper} {K : St → Option R} (h : RelE C S E a) (hf : Fresh S E) (hK : stepK T D n o S K = some r) : o.wp P a E.w (After C R r E n a o S [] [] K) Q := by
  unfold stepK at hK
  split at hK
  · obtain ⟨S', E', s, v, g1, ⟨g2, g3⟩, g4, g5, g6, g7, tc, fz, g8⟩ := nestK_ok hP hT h (hf S.nx (Nat.le_refl _)) hK
    obtain ⟨S2, l1, l2, l3, l4, l5⟩ := putK_ok hn g5.bump g6 g1
    have hnx : S2.nx = S.nx + 8 := by rw [l3]; show S'.nx + 8 = _; rw [g2]
    have hA : After C R r E n a o S [] [] K (a.put o.dst v) E'.w := by
      refine ⟨S2, E', v, l1, rfl, l2, fun id hid hlv => ?_, ⟨rfl, by omega⟩, l4, fun t ht => (put_sl l5 t ht).trans (by show S'.sl t = _; rw [g3]), tc, fz, fun i _ => by simp, g8, fun id hid => (g7 id hid).imp (fun h => h) (fun h => by omega), by cases tc <;> rfl⟩
      rcases g7 id hlv with e4 | e4
      · exact hf id (by omega) e4
      · omega
    unfold Oper.wp
    rcases g4 with g4 | ⟨rfl, g4⟩
    · rw [g4, Oper.upon_value]; exact hA
    · rw [g4, Oper.upon_skip]; exact hA
  · exact stepT_ok hP hG hT hD hn h hf (stepT_of hK)
theorem yield_of {ops : Array Oper} {j d : Nat} (hd : (ops[j]?).bind (·.dst) = some d) (h : RelE C S E a) {b : Bool} (hb : S.sl d = .one (.val .bool b)) : yielded ops a.tmps j = some b ∧ a.tmps.getD d undef = .bool b := by
  have hs := h.slots d
  rw [hb] at hs
  have hv : a.tmps.getD d undef = .bool b := VRv.bool (show VRv E.w (E.F C) .bool b _ from hs)
  refine ⟨?_, hv⟩
  unfold yielded
  rw [hd, Option.bind_some]
  rw [Array.getD_eq_getD_getElem?] at hv
  cases hc : a.tmps[d]? with
  | none => rw [hc] at hv; simp [undef] at hv
  | some v => rw [hc] at hv; simp at hv; rw [hv]
theorem yield_gone {ops : Array Oper} {j d : Nat} (hd : (ops[j]?).bind (·.dst) = some d) (h : RelE C S E a) (hb : S.sl d = .one .gone) : yielded ops a.tmps j = none := by
  have hs := h.slots d
  rw [hb] at hs
  have hv : a.tmps.getD d undef = undef := hs
  unfold yielded
  rw [hd, Option.bind_some]
  rw [Array.getD_eq_getD_getElem?] at hv
  cases hc : a.tmps[d]? with
  | none => rfl
  | some v => rw [hc] at hv; simp at hv; rw [hv]; rfl
theorem known_bool (h : RelE C S E a) {d : Nat} {c : Bool} (hv : a.tmps.getD d undef = .bool c) : RelE C (S.set d (.one (.val .bool c))) E a :=
  { h with
    slots := fun t => by
      show SLR C E (sel t d _ (S.sl t)) _
      rw [sel_eq]
      by_cases ht : t = d
      · subst ht
        rw [if_pos rfl, hv]
        exact VRv.of_bool E.w (E.F C) c
      · rw [if_neg ht]; exact h.slots t
    rows := h.rows
    boxes := h.boxes
    idr := h.idr
    idb := h.idb }
/-- An operation's guard is read. -/
theorem guardK_ok {n : NS} (hn : C.n = n) {ops : Array Oper} {o : Oper} {yes K : St → Option R} (h : RelE C S E a) (hf : Fresh S E) (hK : guardK n ops o S yes K = some r) :
    ∃ S', (S' = S ∨ ∃ d c, S' = S.set d (.one (.val .bool c)) ∧ a.tmps.getD d undef = .bool c ∧ S.sl d ≠ .one .undef) ∧ RelE C S' E a ∧ Fresh S' E ∧
      ((Region.wanted o (yielded ops a.tmps) = true ∧ yes S' = some r) ∨ (Region.wanted o (yielded ops a.tmps) = false ∧ putK n o.dst (.one .gone) S' K = some r)) := by
  unfold guardK at hK
  split at hK
  · rename_i hg
    exact ⟨S, .inl rfl, h, hf, .inl ⟨by simp [Region.wanted, hg], hK⟩⟩
  · rename_i j want hg
    split at hK
    · rename_i d hd
      split at hK
      · rename_i b hb
        obtain ⟨hy, hv⟩ := yield_of hd h hb
        split at hK
        · rename_i hbt
          have hb' : b = true := hbt
          rw [hb'] at hy hv
          refine ⟨S.set d (.one (.val .bool true)), .inr ⟨d, true, rfl, hv, fun e => by rw [hb] at e; cases e⟩, known_bool h hv, fun id hid => hf id hid, ?_⟩
          split at hK
          · exact .inl ⟨by simp [Region.wanted, hg, hy], hK⟩
          · exact .inr ⟨by simp [Region.wanted, hg, hy], hK⟩
        · rename_i hbt
          have hb' : b = false := by cases b <;> simp_all
          rw [hb'] at hy hv
          refine ⟨S.set d (.one (.val .bool false)), .inr ⟨d, false, rfl, hv, fun e => by rw [hb] at e; cases e⟩, known_bool h hv, fun id hid => hf id hid, ?_⟩
          split at hK
          · exact .inr ⟨by simp [Region.wanted, hg, hy], hK⟩
          · exact .inl ⟨by simp [Region.wanted, hg, hy], hK⟩
      · rename_i hb
        have hy := yield_gone hd h hb
        exact ⟨S, .inl rfl, h, hf, .inr ⟨by simp [Region.wanted, hg, hy], hK⟩⟩
      · cases hK
    · cases hK
theorem runOps_ok (hP : C.P = P) (hG : C.gl = T.gl) (hT : TyOk P T) (hD : DenOk P T.gl D) {n : NS} (hn : C.n = n) (ops : Array Oper) : ∀ {l : List Oper} {S : St} {E : Env} {a : Act} {K : St → Option R}, RelE C S E a → Fresh S E → runOps T D n ops l S K = some r →
    (∀ S' E' a', K S' = some r → RelE C S' E' a' → Fresh S' E' → Q .normal a' E'.w) → wpList P ops Q l a E.w
  | [], S, E, a, K, h, hf, hK, hq => hq S E a hK h hf
  | o :: l, S, E, a, K, h, hf, hK, hq => by
    refine wpList_step fun K' hK' => ?_
    unfold runOps at hK
    obtain ⟨S', _, h', hf', hc⟩ := guardK_ok hn h hf hK
    rcases hc with ⟨hw, hy⟩ | ⟨hw, hy⟩
    · rw [if_pos hw]
      refine Oper.wp_mono (fun a' w' ha => ?_) (stepK_ok hP hG hT hD hn h' hf' hy)
      obtain ⟨S2, E2, v, k1, rfl, k2, k3, _⟩ := ha
      exact hK' _ _ (runOps_ok hP hG hT hD hn ops k2 k3 k1 hq)
    · rw [if_neg (by rw [hw]; simp)]
      obtain ⟨S2, k1, k2, k3, _⟩ := putK_ok hn (s := .one .gone) (v := undef) h' rfl hy
      exact hK' _ _ (runOps_ok hP hG hT hD hn ops k2 (fun id hid => hf' id (by rw [← k3]; exact hid)) k1 hq)
/-- What every world of the region has in common. -/
def Held (C : Ctx) (E0 : Env) (X : List (Nat ⊕ Nat)) (w : World) : Prop := ∀ b, (E0.F C b ∨ ∃ i ∈ X, E0.own b = some i) → w.heap[b]? = E0.w.heap[b]?
/-- Since the region's beginning. -/
structure Since (C : Ctx) (E0 E : Env) (X : List (Nat ⊕ Nat)) : Prop where
  le : Env.Le C E0 E
  un : ∀ b i, i ∈ X → E0.own b = some i → (E.own b = some i ∨ E.F C b) ∧ E.w.heap[b]? = E0.w.heap[b]?
theorem Since.held {E0 : Env} {X : List (Nat ⊕ Nat)} (h : Since C E0 E X) : Held C E0 X E.w := fun b hb => by
  rcases hb with hb | ⟨i, hi, hb⟩
  · exact (h.le.F b hb).2
  · exact (h.un b i hi hb).2
theorem Since.step {E0 E' : Env} {X tc : List (Nat ⊕ Nat)} {fz : List Nat} (h : Since C E0 E X) (hx : ∀ i ∈ tc, i ∉ X) (hf : Fr C E E' tc fz) : Since C E0 E' X := ⟨h.le.trans hf.le, fun b i hi hb => by
  obtain ⟨h1, h2⟩ := h.un b i hi hb
  rcases h1 with h1 | h1
  · obtain ⟨k1, k2⟩ := hf.un b i h1 (fun hm => hx i hm hi)
    exact ⟨k1.imp (fun h => h) (fun h => h.1), k2.trans h2⟩
  · obtain ⟨k1, k2⟩ := hf.le.F b h1
    exact ⟨.inr k1, k2.trans h2⟩⟩
/-- The temporaries that are told by the region's beginning. -/
def Old (C : Ctx) (E0 : Env) (rw : Nat → Option RowC) (bx : Nat → Option BoxC) (q0 : Nat) (cl : Nat → Bool) (sl : Nat → SL) (a : Act) : Prop := RelE C ⟨clSl cl sl, rw, bx, q0, fun _ => none⟩ E0 a
theorem Old.put {E0 : Env} {rw : Nat → Option RowC} {bx : Nat → Option BoxC} {q0 : Nat} {cl : Nat → Bool} {sl sl' : Nat → SL} (h : Old C E0 rw bx q0 cl sl a) {n : NS} (hn : C.n = n) {dst : Option Tmp} (hd : DstOk n dst) (v : Value) (hs : ∀ t, some t ≠ dst → sl' t = sl t) {cl' : Nat → Bool} (hc : ∀ t, some t ≠ dst → cl' t = cl t) (hv : ∀ d, dst = some d → cl' d = true → SLR C E0 (sl' d) v) :
    Old C E0 rw bx q0 cl' sl' (a.put dst v) := by
  cases dst with
  | none =>
    have e1 : sl' = sl := funext fun t => hs t (by simp)
    have e2 : cl' = cl := funext fun t => hc t (by simp)
    subst e1; subst e2
    exact h
  | some d =>
    obtain ⟨h1, h2⟩ := hd d rfl
    have h3 := RelE.set (s := clSl cl' sl' d) (v := v) h (d := d) (by rw [hn]; exact h1) (by rw [hn]; exact h2) (by
      unfold clSl
      cases hcd : cl' d with
      | true => exact hv d rfl hcd
      | false => trivial)
    have e : (fun t => sel t d (clSl cl' sl' d) (clSl cl sl t)) = clSl cl' sl' := funext fun t => by
      rw [sel_eq]
      by_cases ht : t = d
      · subst ht; rw [if_pos rfl]
      · rw [if_neg ht]
        unfold clSl
        rw [hc t (by simpa using ht), hs t (by simpa using ht)]
    have h4 : RelE C ⟨fun t => sel t d (clSl cl' sl' d) (clSl cl sl t), rw, bx, q0, fun _ => none⟩ E0 (a.put (some d) v) := h3
    rw [e] at h4
    exact h4
theorem Old.known {E0 : Env} {rw : Nat → Option RowC} {bx : Nat → Option BoxC} {q0 : Nat} {cl : Nat → Bool} {S S' : St} (h : Old C E0 rw bx q0 cl S.sl a) (hS : S' = S ∨ ∃ d c, S' = S.set d (.one (.val .bool c)) ∧ a.tmps.getD d undef = .bool c ∧ S.sl d ≠ .one .undef) : Old C E0 rw bx q0 cl S'.sl a := by
  rcases hS with rfl | ⟨d, c, rfl, hv, _⟩
  · exact h
  · exact { h with
      slots := fun t => by
        have ht := h.slots t
        show SLR C E0 (clSl cl (fun t => sel t d (.one (.val .bool c)) (S.sl t)) t) _
        have ht' : SLR C E0 (clSl cl S.sl t) (a.tmps.getD t undef) := ht
        unfold clSl at ht' ⊢
        cases hc : cl t with
        | false => trivial
        | true =>
          rw [hc] at ht'
          simp only at ht' ⊢
          rw [sel_eq]
          by_cases htd : t = d
          · subst htd
            rw [if_pos rfl, hv]
            exact VRv.of_bool E0.w (E0.F C) c
          · rw [if_neg htd]; exact ht'
      rows := h.rows
      boxes := h.boxes
      idr := h.idr
      idb := h.idb }
theorem sel_false {dst : Option Tmp} {cl : Nat → Bool} (b : Bool) (t : Nat) (ht : some t ≠ dst) : setCl dst b cl t = cl t := by
  cases dst with
  | none => rfl
  | some d =>
    show sel t d b (cl t) = cl t
    rw [sel_eq, if_neg (fun e => ht (by rw [e]))]
/-- Where a way through the region stands. -/
structure At2 (C : Ctx) (E0 : Env) (rw : Nat → Option RowC) (bx : Nat → Option BoxC) (q0 : Nat) (X : List (Nat ⊕ Nat)) (S : St) (cl : Nat → Bool) (E : Env) (a : Act) : Prop where
  rel : RelE C S E a
  fresh : Fresh S E
  nx : q0 ≤ S.nx
  old : Old C E0 rw bx q0 cl S.sl a
  since : Since C E0 E X
theorem setCl_false {dst : Option Tmp} {cl : Nat → Bool} {d : Nat} (hd : dst = some d) (h : setCl dst false cl d = true) : False := by
  subst hd
  have : sel d d false (cl d) = true := h
  rw [sel_eq, if_pos rfl] at this
  cases this
section
variable {E0 : Env} {rw : Nat → Option RowC} {bx : Nat → Option BoxC} {q0 : Nat} {X : List (Nat ⊕ Nat)} {n : NS} {ops : Array Oper} {S0 : World → Prop}
theorem skip_ok (hn : C.n = n) {o : Oper} {cl : Nat → Bool} {S1 : St} {K : St → (Nat → Bool) → Option R} (h : At2 C E0 rw bx q0 X S1 cl E a) (hy : putK n o.dst (.one .gone) S1 (fun S' => K S' (setCl o.dst false cl)) = some r) :
    ∃ S2, K S2 (setCl o.dst false cl) = some r ∧ At2 C E0 rw bx q0 X S2 (setCl o.dst false cl) E (a.put o.dst undef) := by
  obtain ⟨S2, k1, k2, k3, k4, k5⟩ := putK_ok hn (s := .one .gone) (v := undef) h.rel rfl hy
  exact ⟨S2, k1, k2, fun id hid => h.fresh id (by rw [← k3]; exact hid), by rw [k3]; exact h.nx, h.old.put hn k4 undef (fun t ht => put_sl k5 t ht) (fun t ht => sel_false false t ht) (fun d hd hcd => (setCl_false hd hcd).elim), h.since⟩
/-- From one state of a region's way to another. -/
structure Mv (C : Ctx) (dst : Option Tmp) (ps : List Nat) (S S' : St) (cl cl' : Nat → Bool) (E E' : Env) (a a' : Act) : Prop where
  act : ∃ v, a' = a.put dst v
  sl : ∀ t, some t ≠ dst → S.sl t = .one .undef → S'.sl t = .one .undef
  cl : ∀ t, some t ≠ dst → cl' t = cl t
  nx : S.nx ≤ S'.nx
  fr : ∃ tc fz, Fr C E E' tc fz ∧ awayL tc fz ps = true
  live : ∀ id, E'.live id → E.live id ∨ S.nx ≤ id
theorem awayI_nil (q : Nat) : awayI q [] = true := rfl
theorem awayL_nil : ∀ ps : List Nat, awayL [] [] ps = true
  | [] => rfl
  | q :: r => by unfold awayL; rw [awayL_nil r]; rfl
theorem awayI_mem {q : Nat} : ∀ {l : List (Nat ⊕ Nat)}, awayI q l = true → ∀ id, q ≤ id → id < q + 8 → Sum.inl id ∉ l ∧ Sum.inr id ∉ l
  | [], _, id, _, _ => by simp
  | .inl i :: r, h, id, h1, h2 => by
    simp only [awayI, Bool.and_eq_true, Bool.or_eq_true, Nat.blt_eq, Nat.ble_eq] at h
    obtain ⟨k1, k2⟩ := awayI_mem h.2 id h1 h2
    constructor
    · intro hm
      rcases List.mem_cons.1 hm with e | e
      · cases e; omega
      · exact k1 e
    · intro hm
      rcases List.mem_cons.1 hm with e | e
      · cases e
      · exact k2 e
  | .inr i :: r, h, id, h1, h2 => by
    simp only [awayI, Bool.and_eq_true, Bool.or_eq_true, Nat.blt_eq, Nat.ble_eq] at h
    obtain ⟨k1, k2⟩ := awayI_mem h.2 id h1 h2
    constructor
    · intro hm
      rcases List.mem_cons.1 hm with e | e
      · cases e
      · exact k1 e
    · intro hm
      rcases List.mem_cons.1 hm with e | e
      · cases e; omega
      · exact k2 e
theorem awayL_mem {tc : List (Nat ⊕ Nat)} {fz : List Nat} {q : Nat} : ∀ {ps : List Nat}, awayL tc fz ps = true → q ∈ ps → ∀ id, q ≤ id → id < q + 8 → Sum.inl id ∉ tc ∧ Sum.inr id ∉ tc ∧ id ∉ fz
  | [], _, hm => by simp at hm
  | p :: r, h, hm => by
    simp only [awayL, Bool.and_eq_true] at h
    rcases List.mem_cons.1 hm with rfl | hm
    · intro id h1 h2
      obtain ⟨k1, k2⟩ := awayI_mem h.1 id h1 h2
      obtain ⟨k3, _⟩ := awayI_mem h.2.1 id h1 h2
      exact ⟨k1, k2, fun he => k3 (List.mem_map.2 ⟨id, he, rfl⟩)⟩
    · exact awayL_mem h.2.2 hm
theorem known_sl {S S1 : St} (hS : S1 = S ∨ ∃ d c, S1 = S.set d (.one (.val .bool c)) ∧ a.tmps.getD d undef = .bool c ∧ S.sl d ≠ .one .undef) (t : Nat) (ht : S.sl t = .one .undef) : S1.sl t = .one .undef := by
  rcases hS with rfl | ⟨d, c, rfl, _, hd⟩
  · exact ht
  · show sel t d _ (S.sl t) = _
    rw [sel_eq]
    by_cases h : t = d
    · subst h; exact absurd ht hd
    · rw [if_neg h]; exact ht
theorem known_nx {S S1 : St} (hS : S1 = S ∨ ∃ d c, S1 = S.set d (.one (.val .bool c)) ∧ a.tmps.getD d undef = .bool c ∧ S.sl d ≠ .one .undef) : S1.nx = S.nx := by
  rcases hS with rfl | ⟨d, c, rfl, _, _⟩
  · rfl
  · rfl
theorem skip_mv (hn : C.n = n) {o : Oper} {cl : Nat → Bool} {S S1 : St} {ps : List Nat} {K : St → (Nat → Bool) → Option R} (h : At2 C E0 rw bx q0 X S1 cl E a) (hsl : ∀ t, S.sl t = .one .undef → S1.sl t = .one .undef) (hnx : S1.nx = S.nx) (hy : putK n o.dst (.one .gone) S1 (fun S' => K S' (setCl o.dst false cl)) = some r) :
    ∃ S2, K S2 (setCl o.dst false cl) = some r ∧ At2 C E0 rw bx q0 X S2 (setCl o.dst false cl) E (a.put o.dst undef) ∧ Mv C o.dst ps S S2 cl (setCl o.dst false cl) E E a (a.put o.dst undef) := by
  obtain ⟨S2, k1, k2, k3, k4, k5⟩ := putK_ok hn (s := .one .gone) (v := undef) h.rel rfl hy
  exact ⟨S2, k1, ⟨k2, fun id hid => h.fresh id (by rw [← k3]; exact hid), by rw [k3]; exact h.nx, h.old.put hn k4 undef (fun t ht => put_sl k5 t ht) (fun t ht => sel_false false t ht) (fun d hd hcd => (setCl_false hd hcd).elim), h.since⟩,
    ⟨⟨undef, rfl⟩, fun t ht hu => (put_sl k5 t ht).trans (hsl t hu), fun t ht => sel_false false t ht, by rw [k3, hnx]; exact Nat.le_refl _, ⟨[], [], Fr.refl C E _, awayL_nil ps⟩, fun id hid => .inl hid⟩⟩
theorem stepP_ok (hP : C.P = P) (hG : C.gl = T.gl) (hT : TyOk P T) (hD : DenOk P T.gl D) (hn : C.n = n) {o : Oper} {ps : List Nat} {K : St → Option R} (h : RelE C S E a) (hf : Fresh S E) (hK : stepP T D n o S X ps K = some r) : o.wp P a E.w (After C R r E n a o S X ps K) Q := by
  have key : evalQ T D o (opv S.sl) S.rows S.box S.nx (fun δ => match apartI X δ.tc, awayL δ.tc δ.fz ps with | true, true => putK n o.dst δ.v (S.app S.nx δ).bump K | _, _ => none) = some r := by
    unfold stepP at hK
    split at hK
    · cases hK
    · cases hK
    · exact hK
  obtain ⟨δ, g1, g2⟩ := evalQ_ok hP hG hT hD h (fun id h1 h2 => hf id h1) key
  have g3 := g2.1 Q
  rw [hP] at g3
  refine Oper.wp_mono ?_ g3
  rintro a' w' ⟨v, E', rfl, rfl, e1, e2, e3, e4⟩
  split at g1
  · rename_i hap haw
    obtain ⟨S', k1, k2, k3, k4, k5⟩ := putK_ok hn e1.bump e2 g1
    have hnx : S'.nx = S.nx + 8 := by rw [k3]; show (S.app S.nx δ).nx + 8 = _; rw [nx_app]
    refine ⟨S', E', v, k1, rfl, k2, fun id hid hlv => ?_, ⟨rfl, by omega⟩, k4, fun t ht => (put_sl k5 t ht).trans (by show (S.app S.nx δ).sl t = _; rw [app_sl]), δ.tc, δ.fz, apartI_mem hap, e4, fun id hid => (e3 id hid).imp (fun h => h) (fun h => h.1), haw⟩
    rcases e3 id hlv with e4 | e4
    · exact hf id (by omega) e4
    · omega
  · cases g1
def dstOf (ops : Array Oper) (i : Nat) : Option Tmp := (ops[i]?).bind (·.dst)
theorem dstOf_eq {i : Nat} {o : Oper} (h : ops[i]? = some o) : dstOf ops i = o.dst := by unfold dstOf; rw [h]; rfl
/-- an operation in its turn -/
theorem node_step (hP : C.P = P) (hG : C.gl = T.gl) (hT : TyOk P T) (hD : DenOk P T.gl D) (hn : C.n = n) {i : Nat} {cl : Nat → Bool} {ps : List Nat} {K : St → (Nat → Bool) → Option R} (h : At2 C E0 rw bx q0 X S cl E a) (hK : nodeK T D n ops X rw bx ps .step i cl S K = some r) {K' : Act → World → Prop}
    (hq : ∀ S' cl' E' a', K S' cl' = some r → At2 C E0 rw bx q0 X S' cl' E' a' → Mv C (dstOf ops i) ps S S' cl cl' E E' a a' → K' a' E'.w) : wpOp P ops Q i K' a E.w := by
  unfold nodeK at hK
  split at hK
  · cases hK
  · rename_i o hoi
    obtain ⟨S1, hS1, h1, hf1, hc⟩ := guardK_ok hn h.rel h.fresh hK
    have hnx1 := known_nx hS1
    have hsl1 := known_sl hS1
    have hat : At2 C E0 rw bx q0 X S1 cl E a := ⟨h1, hf1, by rw [hnx1]; exact h.nx, h.old.known hS1, h.since⟩
    unfold wpOp
    rw [hoi]
    simp only
    rw [dstOf_eq hoi] at hq
    rcases hc with ⟨hw, hy⟩ | ⟨hw, hy⟩
    · rw [if_pos hw]
      have hwp : o.wp P a E.w (After C R r E n a o S1 X ps (fun S' => K S' (setCl o.dst false cl))) Q := by
        cases ps with
        | nil => exact stepT_ok hP hG hT hD hn h1 hf1 hy
        | cons p ps => exact stepP_ok hP hG hT hD hn h1 hf1 hy
      refine .inl (Oper.wp_mono (fun a' w' ha => ?_) hwp)
      obtain ⟨S2, E2, v, k1, rfl, k2, k3, ⟨rfl, k4⟩, k5, k6, tc, fz, k7, k8, k9, k10⟩ := ha
      exact hq _ _ _ _ k1 ⟨k2, k3, Nat.le_trans hat.nx k4, hat.old.put hn k5 v k6 (fun t ht => sel_false false t ht) (fun d hd hcd => (setCl_false hd hcd).elim), h.since.step k7 k8⟩
        ⟨⟨v, rfl⟩, fun t ht hu => (k6 t ht).trans (hsl1 t hu), fun t ht => sel_false false t ht, by omega, ⟨tc, fz, k8, k10⟩, fun id hid => (k9 id hid).imp (fun h => h) (fun h => by omega)⟩
    · rw [if_neg (by rw [hw]; simp)]
      obtain ⟨S2, k1, k2, k3⟩ := skip_mv (ps := ps) hn hat hsl1 hnx1 hy
      exact hq _ _ _ _ k1 k2 k3
/-- an operation that is taken first -/
theorem node_take (hP : C.P = P) (hG : C.gl = T.gl) (hT : TyOk P T) (hD : DenOk P T.gl D) (hn : C.n = n) (hns : Region.noSelect ops = true) (hq0 : ∀ id, q0 ≤ id → ¬ E0.live id) (hnp : ∀ c a w, ¬ Q (.panic c) a w) {m : Way} (hm : m = .cur ∨ m = .mem) {i fuel : Nat} {listed : Array Bool} (hp1 : Region.free .any ops listed i = true) (hp2 : (Region.ready .any ops listed).contains i = true)
    {cl : Nat → Bool} {ps : List Nat} {K : St → (Nat → Bool) → Option R} (h : At2 C E0 rw bx q0 X S cl E a) (hK : nodeK T D n ops X rw bx ps m i cl S K = some r)
    (hq : ∀ S' cl' E' a', K S' cl' = some r → At2 C E0 rw bx q0 X S' cl' E' a' → Mv C (dstOf ops i) ps S S' cl cl' E E' a a' → wpAnyH P .any ops Q (Held C E0 X) fuel (listed.setIfInBounds i true) a' E'.w) : wpAnyH P .any ops Q (Held C E0 X) (fuel + 1) listed a E.w := by
  unfold nodeK at hK
  split at hK
  · cases hK
  · rename_i o hoi
    obtain ⟨S1, hS1, h1, hf1, hc⟩ := guardK_ok hn h.rel h.fresh hK
    have hnx1 := known_nx hS1
    have hsl1 := known_sl hS1
    have hat : At2 C E0 rw bx q0 X S1 cl E a := ⟨h1, hf1, by rw [hnx1]; exact h.nx, h.old.known hS1, h.since⟩
    rw [dstOf_eq hoi] at hq
    rcases hc with ⟨hw, hy⟩ | ⟨hw, hy⟩
    · rcases hm with rfl | rfl
      · obtain ⟨δ, g1, g2⟩ := evalQ_ok hP hG hT hD h1 (fun id h1 h2 => hf1 id h1) hy
        have hpu := g2.2
        unfold PureOk at hpu
        split at g1
        · rename_i hrd haw
          rw [hrd] at hpu
          obtain ⟨v, hv, hrun⟩ := hpu
          obtain ⟨S2, k1, k2, k3, k4, k5⟩ := putK_ok hn (S := (S1.frs δ.fz).bump) (E := E.drops δ.fz) (s := δ.v) (v := v) (h1.frs (l := δ.fz)).bump hv g1
          refine wpAnyH_take hoi hns hp1 hp2 (fun c a' w' hq' => absurd hq' (hnp c _ w')) (v := v) (.inl ⟨hw, fun w hw' => by rw [← hP]; exact hrun w (fun b hb => hb.elim)⟩) h.since.held ?_
          have hsi2 : Since C E0 (E.drops δ.fz) X := h.since.step (tc := []) (fun i hi => by simp at hi) (Fr.drops h1 δ.fz _)
          have hnx2 : S2.nx = S1.nx + 8 := by rw [k3]; show (S1.frs δ.fz).nx + 8 = _; rw [nx_frs]
          have hsl2 : ∀ t, some t ≠ o.dst → S2.sl t = S1.sl t := fun t ht => (put_sl k5 t ht).trans (by show (S1.frs δ.fz).sl t = _; rw [frs_sl])
          exact hq _ _ (E.drops δ.fz) _ k1 ⟨k2, fun id hid hlv => hf1 id (by omega) hlv, by have := hat.nx; omega, hat.old.put hn k4 v hsl2 (fun t ht => sel_false false t ht) (fun d hd hcd => (setCl_false hd hcd).elim), hsi2⟩
            ⟨⟨v, rfl⟩, fun t ht hu => (hsl2 t ht).trans (hsl1 t hu), fun t ht => sel_false false t ht, by omega, ⟨[], δ.fz, Fr.drops h1 δ.fz _, haw⟩, fun id hid => .inl hid⟩
        · cases g1
      · obtain ⟨δ, g1, g2⟩ := evalQ_ok (S := ⟨clSl cl S1.sl, rw, bx, q0, fun _ => none⟩) (E := E0) (q := S1.nx) hP hG hT hD hat.old (fun id h1 h2 => hq0 id (Nat.le_trans hat.nx h1)) hy
        have hpu := g2.2
        unfold PureOk at hpu
        split at g1
        · rename_i hfz hrd
          have hnil : δ.fz = [] := by cases hz : δ.fz with | nil => rfl | cons x l => rw [hz] at hfz; cases hfz
          have hne : ∃ v, SLR C (E0.drops δ.fz) δ.v v ∧ ∀ w', (∀ b, δ.rd.blk C E0 b → w'.heap[b]? = E0.w.heap[b]?) → (execOp a.eval o).run C.P w' = .ok (.value v) w' := by
            cases hr : δ.rd with
            | eff => rw [hr] at hrd; cases hrd
            | _ => rw [hr] at hpu; exact hpu
          obtain ⟨v, hv, hrun⟩ := hne
          rw [hnil, drops_nil] at hv
          have hblk : ∀ w, Held C E0 X w → ∀ b, δ.rd.blk C E0 b → w.heap[b]? = E0.w.heap[b]? := fun w hw b hb => by
            cases hr : δ.rd with
            | eff => rw [hr] at hrd; cases hrd
            | pure => rw [hr] at hb; exact hb.elim
            | sh => rw [hr] at hb; exact hw b (.inl hb)
            | ob i => rw [hr] at hb hrd; exact hw b (.inr ⟨i, memI_mem.1 hrd, hb⟩)
          obtain ⟨S2, k1, k2, k3, k4, k5⟩ := putK_ok hn (S := S1.bump) (s := δ.v) (v := v) h1.bump (SLR.mono h.since.le hv) g1
          refine wpAnyH_take hoi hns hp1 hp2 (fun c a' w' hq' => absurd hq' (hnp c _ w')) (v := v) (.inl ⟨hw, fun w hw' => by rw [← hP]; exact hrun w (hblk w hw')⟩) h.since.held ?_
          have hnx2 : S2.nx = S1.nx + 8 := k3
          exact hq _ _ _ _ k1 ⟨k2, fun id hid hlv => hf1 id (by omega) hlv, by have := hat.nx; omega, hat.old.put hn k4 v (fun t ht => put_sl k5 t ht) (fun t ht => sel_false true t ht) (fun d hd hcd => by
            rw [k5, hd]
            show SLR C E0 (sel d d δ.v (S1.bump.sl d)) v
            rw [sel_eq, if_pos rfl]
            exact hv), h.since⟩
            ⟨⟨v, rfl⟩, fun t ht hu => (put_sl k5 t ht).trans (hsl1 t hu), fun t ht => sel_false true t ht, by omega, ⟨[], [], Fr.refl C E _, awayL_nil ps⟩, fun id hid => .inl hid⟩
        · cases g1
    · obtain ⟨S2, k1, k2, k3⟩ := skip_mv (ps := ps) hn hat hsl1 hnx1 hy
      exact wpAnyH_take hoi hns hp1 hp2 (fun c a' w' hq' => absurd hq' (hnp c _ w')) (v := undef) (.inr ⟨hw, rfl⟩) h.since.held (hq _ _ _ _ k1 k2 k3)
end
end
end Go.Proofs.YtlioalaehkohlaaDoor.Vm
