/- Bodies: what is told of their loops and of their regions that draw. Conditions: as each theorem states them. -/
import Derived.Test.YtlioalaehkohlaaDoorVP
import Derived.LoopN
namespace Go.Proofs.YtlioalaehkohlaaDoor.Vm
open Go Go.RowKit
set_option linter.unusedVariables false
set_option linter.unusedSimpArgs false
/-- An exit of the machine's is one of the program's. -/
def Out.ends (Q : Exit → Act → World → Prop) : Out → Act → World → Prop
  | .normal, a, w => Q .normal a w
  | .exit id, a, w => Q (.exit id) a w
  | .ret, a, w => Q .ret a w
def exitOf : Out → Exit
  | .normal => .normal
  | .exit i => .exit i
  | .ret => .ret
theorem ends_iff {Q : Exit → Act → World → Prop} {o : Out} {a : Act} {w : World} : Out.ends Q o a w ↔ Q (exitOf o) a w := by cases o <;> rfl
def pickWay : (ws : List (Out × List (Nat × CS))) → wayDen ws → Option (Out × St)
  | [], _ => none
  | [w], y => some (w.1, canon w.2 y)
  | w :: w' :: r, y => match (y : CSs.den w.2 ⊕ wayDen (w' :: r)) with
    | .inl z => some (w.1, canon w.2 z)
    | .inr z => pickWay (w' :: r) z
theorem goWay_pick {R : Type} {r : R} : ∀ {ws : List (Out × List (Nat × CS))} {y : wayDen ws} {K : Out → St → Option R}, goWay ws y K = some r → ∃ o S', pickWay ws y = some (o, S') ∧ K o S' = some r
  | [], y, K, h => by cases h
  | [w], y, K, h => ⟨w.1, canon w.2 y, rfl, h⟩
  | w :: w' :: rs, y, K, h => by
    cases y with
    | inl z => exact ⟨w.1, canon w.2 z, rfl, h⟩
    | inr z => exact goWay_pick (ws := w' :: rs) (y := z) h
theorem sameO_eq {a b : Out} (h : mkW.sameO a b = true) : a = b := by
  cases a <;> cases b <;> simp [mkW.sameO] at h ⊢
  exact h
theorem mkW_ok {R : Type} {r : R} {o : Out} {S : St} : ∀ {ws : List (Out × List (Nat × CS))} {K : wayDen ws → Option R}, mkW o S ws K = some r → ∃ y w z, K y = some r ∧ w ∈ ws ∧ rdH w.2 S = some z ∧ pickWay ws y = some (o, canon w.2 z)
  | [], K, h => by cases h
  | [w], K, h => by
    unfold mkW at h
    split at h
    · rename_i hs
      split at h
      · rename_i z hz
        exact ⟨z, w, z, h, List.mem_cons_self .., hz, by rw [sameO_eq hs]; rfl⟩
      · cases h
    · cases h
  | w :: w' :: rs, K, h => by
    unfold mkW at h
    split at h
    · rename_i hs
      split at h
      · rename_i z hz
        exact ⟨.inl z, w, z, h, List.mem_cons_self .., hz, by rw [sameO_eq hs]; rfl⟩
      · cases h
    · obtain ⟨y, v, z, h1, hm, h2, h3⟩ := mkW_ok h
      exact ⟨.inr y, v, z, h1, List.mem_cons_of_mem _ hm, h2, h3⟩
theorem canon_le {L : List (Nat × CS)} (h : ∀ x, Nat.ble (canL L x 0).2.length 1000 = true) (x : CSs.den L) : (canL L x 0).2.length ≤ 1000 := Nat.le_of_ble_eq_true (h x)
theorem fresh_canon {L : List (Nat × CS)} {x : CSs.den L} {E : Env} (h : ∀ id, E.live id → id < (canL L x 0).2.length) (hl : (canL L x 0).2.length ≤ 1000) : Fresh (canon L x) E := fun id hid hlv => by
  have h1 := h id hlv
  have h2 : 1000 ≤ id := hid
  omega
section
variable {C : Ctx} {S : St} {E : Env} {a : Act}
/-- Where the machine's state is canonical, the program's is. -/
theorem canon_same (h : RelE C S E a) {L : List (Nat × CS)} {x : CSs.den L} (hx : rdH L S = some x) (hl : (canL L x 0).2.length ≤ 1000 ∨ True) : ∃ E', E'.w = E.w ∧ RelE C (canon L x) E' a ∧ (∀ id, E'.live id → id < (canL L x 0).2.length) := by
  unfold rdH at hx
  split at hx
  · rename_i y hy
    split at hx
    · rename_i hi
      cases hx
      have hd := h.frs (l := y.2.1)
      obtain ⟨k1, k2⟩ := canon_rel (C' := C) h (fun _ _ h => h) h.slots hy hi (a' := a) (fun b hb => ⟨can_none hb.1, hb.2⟩) (fun b o ho => by
        obtain ⟨z, hz⟩ := can_some ho
        exact hd.ownlt b z hz) h.keep rfl (fun t => rfl) h.size h.arg h.defers
      exact ⟨E.can y.2.1 y.2.2, rfl, k1, fun id hid => by rw [k2]; exact hid⟩
    · cases hx
  · cases hx
end
theorem ckV_n : ∀ (cs : List CK) (x : CKs.den cs) (i : Nat), (ckV cs x i).2.length = CK.nOb cs
  | [], _, _ => rfl
  | .v k :: cs, x, i => ckV_n cs x.2 i
  | .own e k :: cs, x, i => congrArg (· + 1) (ckV_n cs x.2 (i + 1))
theorem cpV_n : ∀ (ps : List Cp) (x : Cps.den ps) (i : Nat), (cpV ps x i).2.length = Cp.nOb ps
  | [], _, _ => rfl
  | .v k :: ps, x, i => cpV_n ps x.2 i
  | .box t cs :: ps, x, i => by
    simp only [cpV, Cp.nOb, List.length_cons, List.length_append, cpV_n ps, ckV_n]
    omega
  | .at j :: ps, x, i => cpV_n ps x.2 i
theorem csV_n : ∀ (c : CS) (x : c.den) (i : Nat), (csV c x i).2.length = c.nOb
  | .v _, _, _ => rfl
  | .own _ _, _, _ => rfl
  | .nil, _, _ => rfl
  | .nest _ _ _, _, _ => rfl
  | .box t cs, x, i => by simp only [csV, CS.nOb, List.length_cons, ckV_n]
  | .at _, _, _ => rfl
  | .ra _, _, _ => rfl
  | .fn f ps, x, i => cpV_n ps x i
theorem canL_n : ∀ (L : List (Nat × CS)) (x : CSs.den L) (i : Nat), (canL L x i).2.length = nObL L
  | [], _, _ => rfl
  | c :: L, x, i => by simp only [canL, nObL, List.length_append, csV_n, canL_n L]
/-- A typed function tells what code does. -/
def HintOk (P : Program) (G : List (Nat × GV)) (n : NS) (c : Code) (h : Hint) : Prop :=
  ∀ (C : Ctx) (S : St) (E : Env) (a : Act) (x : CSs.den h.L) (y : wayDen h.ws), C.P = P → C.gl = G → C.n = n → RelE C S E a → Fresh S E → rdH h.L S = some x → h.f x = some y →
    c.wp P (fun e a' w' => ∃ o S' E', pickWay h.ws y = some (o, S') ∧ E'.w = w' ∧ RelE C S' E' a' ∧ Fresh S' E' ∧ e = exitOf o) a E.w
def hintsIn (H : Hints) (P : Program) (G : List (Nat × GV)) (n : NS) : Code → Prop
  | .region id ops true => match H.reg id with
    | some h => HintOk P G n (.region id ops true) h
    | none => match H.drw id with
      | some d => pathOk ops d.p ops.size (Array.replicate ops.size false) [] = true ∧ Region.noSelect ops = true
      | none => True
  | .seq a b => hintsIn H P G n a ∧ hintsIn H P G n b
  | .cond _ a b => hintsIn H P G n a ∧ hintsIn H P G n b
  | .block id c => match H.blk id with
    | some h => HintOk P G n (.block id c) h
    | none => hintsIn H P G n c
  | .loop c => hintsIn H P G n c
  | _ => True
section
variable {C : Ctx} {S : St} {E : Env} {a : Act} {R : Type} {T : Tys} {D : FuncId → Nat → Option Den} {r : R} {P : Program} {Q : Exit → Act → World → Prop}
theorem draw_ok (hP : C.P = P) (hG : C.gl = T.gl) (hT : TyOk P T) (hD : DenOk P T.gl D) {n : NS} (hn : C.n = n) {id : Nat} {ops : Array Oper} {X : List (Nat ⊕ Nat)} {p : List (Way × Nat)} (hp : pathOk ops p ops.size (Array.replicate ops.size false) [] = true) (hns : Region.noSelect ops = true) {K : St → Option R}
    (h : RelE C S E a) (hf : Fresh S E) (hK : runPath T D n ops X S.rows S.box p (fun _ => true) [] S K = some r) (hq : ∀ S' E' a', K S' = some r → RelE C S' E' a' → Fresh S' E' → Q .normal a' E'.w) : (Code.region id ops true).wp P Q a E.w := by
  refine wp_region_noPanic (wp_region_held hT.mx (S := Held C { E with w := { E.w with drawn := E.w.drawn + 1 } } X) ?_)
  have h2 := h.wide (Wider.drew E.w)
  exact path_ok hP hG hT hD hn hns (E0 := { E with w := { E.w with drawn := E.w.drawn + 1 } }) (q0 := S.nx) (fun id hid => hf id hid) (fun c a w hh => hh) p (pd := []) (dn := fun _ => false) hp (fun e he => by simp at he) ⟨⟨h2, fun id hid => hf id hid, Nat.le_refl _, (show RelE C ⟨clSl (fun _ => true) S.sl, S.rows, S.box, S.nx, fun _ => none⟩ _ a from { h2 with slots := h2.slots, rows := h2.rows, boxes := h2.boxes, nests := fun id n hn => (by cases hn), idn := fun id n hn => (by cases hn) }), ⟨Env.Le.refl, fun b i _ hb => ⟨.inl hb, rfl⟩⟩⟩, fun p hp => by simp at hp, List.Pairwise.nil⟩ hK (fun S' E' a' k1 k2 k3 => hq S' E' a' k1 k2 k3) (Nat.le_refl _)
theorem loopN_ok {id : Nat} {c : Code} {body : St → (Out → St → Option R) → Option R}
    (hb : ∀ {S : St} {E : Env} {a : Act} {K : Out → St → Option R} {Q : Exit → Act → World → Prop}, RelE C S E a → Fresh S E → body S K = some r → (∀ o S' E' a', K o S' = some r → RelE C S' E' a' → Fresh S' E' → Out.ends Q o a' E'.w) → c.wp P Q a E.w) :
    ∀ (k : Nat) {S : St} {E : Env} {a : Act} {K : Out → St → Option R} {Q : Exit → Act → World → Prop}, RelE C S E a → Fresh S E → loopN id body k S K = some r → (∀ o S' E' a', K o S' = some r → RelE C S' E' a' → Fresh S' E' → Out.ends Q o a' E'.w) → Code.rounds P c (Exit.inBlock id Q) k a E.w
  | 0, S, E, a, K, Q, h, hf, hK, hq => by cases hK
  | k + 1, S, E, a, K, Q, h, hf, hK, hq => by
    rw [rounds_succ]
    refine hb h hf hK (fun o S' E' a' h1 h2 h3 => ?_)
    cases o with
    | normal => exact loopN_ok hb k h2 h3 h1 hq
    | ret => exact hq .ret S' E' a' h1 h2 h3
    | exit j =>
      unfold outIn at h1
      simp only at h1
      show (if j = id then Q .normal a' E'.w else Q (.exit j) a' E'.w)
      split at h1
      · rename_i hb
        rw [if_pos (Nat.eq_of_beq_eq_true hb)]
        exact hq .normal S' E' a' h1 h2 h3
      · rename_i hb
        rw [if_neg (fun e => by subst e; simp at hb)]
        exact hq (.exit j) S' E' a' h1 h2 h3
theorem hint_ok {c : Code} {h : Hint} {n : NS} {G : List (Nat × GV)} (hP : C.P = P) (hG : C.gl = G) (hn : C.n = n) (hh : HintOk P G n c h) (hr : RelE C S E a) (hf : Fresh S E) {K : Out → St → Option R} (hK : (match rdH h.L S with | some x => (h.f x).bind fun y => goWay h.ws y K | none => none) = some r)
    (hq : ∀ o S' E' a', K o S' = some r → RelE C S' E' a' → Fresh S' E' → Out.ends Q o a' E'.w) : c.wp P Q a E.w := by
  split at hK
  · rename_i x hx
    obtain ⟨y, hy, hK2⟩ := Option.bind_eq_some_iff.1 hK
    obtain ⟨o, S', k1, k2⟩ := goWay_pick hK2
    refine wp_mono (hh C S E a x y hP hG hn hr hf hx hy) ?_
    rintro e a' w' ⟨o', S2, E', e1, rfl, e2, e3, rfl⟩
    rw [k1] at e1
    cases e1
    exact ends_iff.1 (hq o S' E' a' k2 e2 e3)
  · cases hK
theorem jnAt_le {H : Hints} {t : Nat} {ws : List (Out × List (Nat × CS))} (hj : jnAt H t = some ws) : ∀ w ∈ ws, nObL w.2 ≤ 1000 := by
  unfold jnAt at hj
  split at hj
  · split at hj
    · rename_i hall
      cases hj
      intro w hw
      exact Nat.le_of_ble_eq_true (List.all_eq_true.1 hall w hw)
    · cases hj
  · cases hj
theorem jn_fin {C : Ctx} {R : Type} {r : R} {ws : List (Out × List (Nat × CS))} {yv : wayDen ws} (hws : ∀ w ∈ ws, nObL w.2 ≤ 1000) {o1 : Out} {S1 : St} (p1 : pickWay ws yv = some (o1, S1)) {K : Out → St → Option R} (p2 : K o1 S1 = some r)
    (hq : ∀ o S' E' a', K o S' = some r → RelE C S' E' a' → Fresh S' E' → Out.ends Q o a' E'.w) : ∀ o S' E' a', mkW o S' ws some = some yv → RelE C S' E' a' → Fresh S' E' → Out.ends Q o a' E'.w := by
  intro o S' E' a' hm hr hf'
  obtain ⟨y', w, z, l1, hw, l2, l3⟩ := mkW_ok hm
  cases l1
  rw [p1] at l3
  cases l3
  obtain ⟨E2, f1, f2, f3⟩ := canon_same hr l2 (.inr trivial)
  rw [← f1]
  exact hq o1 _ E2 a' p2 f2 (fresh_canon f3 (by rw [canL_n]; exact hws w hw))
theorem reg_ok {R : Type} {r : R} (hP : C.P = P) (hG : C.gl = T.gl) (hT : TyOk P T) (hD : DenOk P T.gl D) {n : NS} (hn : C.n = n) {H : Hints} {id : Nat} {ops : Array Oper} {draw : Bool} {K : Out → St → Option R} (hH : hintsIn H P T.gl n (.region id ops draw)) (h : RelE C S E a) (hf : Fresh S E) (hK : runReg T D H n id ops draw S K = some r)
    (hq : ∀ o S' E' a', K o S' = some r → RelE C S' E' a' → Fresh S' E' → Out.ends Q o a' E'.w) : (Code.region id ops draw).wp P Q a E.w := by
  cases draw with
  | false => exact wp_region_list (runOps_ok hP hG hT hD hn ops h hf hK (fun S' E' a' h1 h2 h3 => hq .normal S' E' a' h1 h2 h3))
  | true =>
    unfold hintsIn at hH
    unfold runReg at hK
    simp only at hK
    split at hK
    · rename_i hh hid
      rw [hid] at hH
      exact hint_ok hP hG hn hH h hf hK hq
    · rename_i hid
      rw [hid] at hH
      simp only at hH
      split at hK
      · rename_i d hd
        rw [hd] at hH
        exact draw_ok hP hG hT hD hn hH.1 hH.2 h hf hK (fun S' E' a' h1 h2 h3 => hq .normal S' E' a' h1 h2 h3)
      · cases hK
theorem run_ok {R : Type} {r : R} (hP : C.P = P) (hG : C.gl = T.gl) (hT : TyOk P T) (hD : DenOk P T.gl D) {n : NS} (hn : C.n = n) {H : Hints} : ∀ (c : Code) {S : St} {E : Env} {a : Act} {K : Out → St → Option R} {Q : Exit → Act → World → Prop}, hintsIn H P T.gl n c → RelE C S E a → Fresh S E → run T D H n c S K = some r →
    (∀ o S' E' a', K o S' = some r → RelE C S' E' a' → Fresh S' E' → Out.ends Q o a' E'.w) → c.wp P Q a E.w
  | .skip, S, E, a, K, Q, hH, h, hf, hK, hq => wp_skip (hq .normal S E a hK h hf)
  | .ret, S, E, a, K, Q, hH, h, hf, hK, hq => wp_ret (hq .ret S E a hK h hf)
  | .exit id, S, E, a, K, Q, hH, h, hf, hK, hq => wp_exit (hq (.exit id) S E a hK h hf)
  | .region id ops draw, S, E, a, K, Q, hH, h, hf, hK, hq => by
    simp only [run] at hK
    split at hK
    · rename_i ws hj
      obtain ⟨yv, h1, h2⟩ := Option.bind_eq_some_iff.1 hK
      obtain ⟨o1, S1, p1, p2⟩ := goWay_pick h2
      exact reg_ok hP hG hT hD hn hH h hf h1 (jn_fin (jnAt_le hj) p1 p2 hq)
    · exact reg_ok hP hG hT hD hn hH h hf hK hq
  | .seq x y, S, E, a, K, Q, hH, h, hf, hK, hq => by
    refine wp_seq (run_ok hP hG hT hD hn x hH.1 h hf hK (fun o S' E' a' h1 h2 h3 => ?_))
    cases o with
    | normal => exact run_ok hP hG hT hD hn y hH.2 h2 h3 h1 hq
    | exit id => exact hq (.exit id) S' E' a' h1 h2 h3
    | ret => exact hq .ret S' E' a' h1 h2 h3
  | .cond x y z, S, E, a, K, Q, hH, h, hf, hK, hq => by
    simp only [run] at hK
    split at hK
    · rename_i ws hj
      obtain ⟨yv, h1, h2⟩ := Option.bind_eq_some_iff.1 hK
      obtain ⟨o1, S1, p1, p2⟩ := goWay_pick h2
      have hj' : ∃ t, jnAt H t = some ws := by
        unfold jnOf at hj
        split at hj
        · exact ⟨_, hj⟩
        · cases hj
      obtain ⟨tj, hj'⟩ := hj'
      have fin := jn_fin (r := r) (Q := Q) (jnAt_le hj') p1 p2 hq
      split at h1
      · rename_i t hx
        have hv : a.eval x = .bool t := VRv.bool (show VRv E.w (E.F C) .bool t _ from eval_one h hx)
        refine wp_cond hv ?_
        split at h1
        · rename_i ht
          have ht' : t = true := ht
          rw [ht', if_pos rfl]
          exact run_ok hP hG hT hD hn y hH.1 h hf h1 fin
        · rename_i ht
          have ht' : t = false := by cases t <;> simp_all
          rw [ht']
          exact run_ok hP hG hT hD hn z hH.2 h hf h1 fin
      · cases h1
    split at hK
    · rename_i t hx
      have hv : a.eval x = .bool t := VRv.bool (show VRv E.w (E.F C) .bool t _ from eval_one h hx)
      refine wp_cond hv ?_
      split at hK
      · rename_i ht
        have ht' : t = true := ht
        rw [ht', if_pos rfl]
        exact run_ok hP hG hT hD hn y hH.1 h hf hK hq
      · rename_i ht
        have ht' : t = false := by cases t <;> simp_all
        rw [ht']
        exact run_ok hP hG hT hD hn z hH.2 h hf hK hq
    · cases hK
  | .block id c, S, E, a, K, Q, hH, h, hf, hK, hq => by
    unfold run at hK
    unfold hintsIn at hH
    split at hK
    · rename_i hh hid
      rw [hid] at hH
      exact hint_ok hP hG hn hH h hf hK hq
    · rename_i hid
      rw [hid] at hH
      simp only at hH
      split at hK
      · rename_i k hu
        split at hK
        · rename_i c'
          exact wp_block (wp_loop_rounds k (loopN_ok (fun h1 h2 h3 h4 => run_ok hP hG hT hD hn c' hH h1 h2 h3 h4) k h hf hK hq))
        · cases hK
      · refine wp_block (run_ok hP hG hT hD hn c hH h hf hK (fun o S' E' a' h1 h2 h3 => ?_))
        cases o with
        | normal => exact hq .normal S' E' a' h1 h2 h3
        | ret => exact hq .ret S' E' a' h1 h2 h3
        | exit j =>
          unfold outIn at h1
          simp only at h1
          show (if j = id then Q .normal a' E'.w else Q (.exit j) a' E'.w)
          split at h1
          · rename_i hb
            rw [if_pos (Nat.eq_of_beq_eq_true hb)]
            exact hq .normal S' E' a' h1 h2 h3
          · rename_i hb
            rw [if_neg (fun e => by subst e; simp at hb)]
            exact hq (.exit j) S' E' a' h1 h2 h3
  | .loop c, S, E, a, K, Q, hH, h, hf, hK, hq => by simp [run] at hK
  | .rangeFunc f ps x y, S, E, a, K, Q, hH, h, hf, hK, hq => by simp [run] at hK
  | .scope c, S, E, a, K, Q, hH, h, hf, hK, hq => by simp [run] at hK
  | .label l, S, E, a, K, Q, hH, h, hf, hK, hq => by simp [run] at hK
  | .goto l, S, E, a, K, Q, hH, h, hf, hK, hq => by simp [run] at hK
  | .refuse w, S, E, a, K, Q, hH, h, hf, hK, hq => by simp [run] at hK
end
end Go.Proofs.YtlioalaehkohlaaDoor.Vm
