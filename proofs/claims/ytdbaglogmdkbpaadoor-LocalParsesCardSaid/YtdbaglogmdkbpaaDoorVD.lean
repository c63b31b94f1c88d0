/- Bodies: what is told of their loops and of their regions that draw. Conditions: as each theorem states them. -/
import Derived.Test.YtdbaglogmdkbpaaDoorVP
import Derived.LoopN
namespace Go.Proofs.YtdbaglogmdkbpaaDoor.Vm
open Go Go.RowKit
set_option linter.unusedVariables false
set_option linter.unusedSimpArgs false
/-- An exit of the machine's is one of the program's. -/
def Out.ends (Q : Exit → Act → World → Prop) : Out → Act → World → Prop
  | .normal, a, w => Q .normal a w
  | .exit id, a, w => Q (.exit id) a w
  | .ret, a, w => Q .ret a w
def exitOf : Out → Exit
  | .normal => .normal
  | .exit i => .exit i
  | .ret => .ret
theorem ends_iff {Q : Exit → Act → World → Prop} {o : Out} {a : Act} {w : World} : Out.ends Q o a w ↔ Q (exitOf o) a w := by cases o <;> rfl
def pickWay : (ws : List (Out × List (Nat × CS))) → wayDen ws → Option (Out × St)
  | [], _ => none
  | [w], y => some (w.1, canon w.2 y)
  | w :: w' :: r, y => match (y : CSs.den w.2 ⊕ wayDen (w' :: r)) with
    | .inl z => some (w.1, canon w.2 z)
    | .inr z => pickWay (w' :: r) z
theorem goWay_pick {R : Type} {r : R} : ∀ {ws : List (Out × List (Nat × CS))} {y : wayDen ws} {K : Out → St → Option R}, goWay ws y K = some r → ∃ o S', pickWay ws y = some (o, S') ∧ K o S' = some r
  | [], y, K, h => by cases h
  | [w], y, K, h => ⟨w.1, canon w.2 y, rfl, h⟩
  | w :: w' :: rs, y, K, h => by
    cases y with
    | inl z => exact ⟨w.1, canon w.2 z, rfl, h⟩
    | inr z => exact goWay_pick (ws := w' :: rs) (y := z) h
/-- A typed function tells what code does. -/
def HintOk (P : Program) (G : List (Nat × GV)) (n : NS) (c : Code) (h : Hint) : Prop :=
  ∀ (C : Ctx) (S : St) (E : Env) (a : Act) (x : CSs.den h.L) (y : wayDen h.ws), C.P = P → C.gl = G → C.n = n → RelE C S E a → Fresh S E → rdH h.L S = some x → h.f x = some y →
    c.wp P (fun e a' w' => ∃ o S' E', pickWay h.ws y = some (o, S') ∧ E'.w = w' ∧ RelE C S' E' a' ∧ Fresh S' E' ∧ e = exitOf o) a E.w
def hintsIn (H : Hints) (P : Program) (G : List (Nat × GV)) (n : NS) : Code → Prop
  | .region id ops true => match H.reg id with
    | some h => HintOk P G n (.region id ops true) h
    | none => match H.drw id with
      | some d => pathOk ops d.p ops.size (Array.replicate ops.size false) [] = true ∧ Region.noSelect ops = true
      | none => True
  | .seq a b => hintsIn H P G n a ∧ hintsIn H P G n b
  | .cond _ a b => hintsIn H P G n a ∧ hintsIn H P G n b
  | .block id c => match H.blk id with
    | some h => HintOk P G n (.block id c) h
    | none => hintsIn H P G n c
  | .loop c => hintsIn H P G n c
  | _ => True
section
variable {C : Ctx} {S : St} {E : Env} {a : Act} {R : Type} {T : Tys} {D : FuncId → Nat → Option Den} {r : R} {P : Program} {Q : Exit → Act → World → Prop}
theorem draw_ok (hP : C.P = P) (hG : C.gl = T.gl) (hT : TyOk P T) (hD : DenOk P T.gl D) {n : NS} (hn : C.n = n) {id : Nat} {ops : Array Oper} {X : List (Nat ⊕ Nat)} {p : List (Way × Nat)} (hp : pathOk ops p ops.size (Array.replicate ops.size false) [] = true) (hns : Region.noSelect ops = true) {K : St → Option R}
    (h : RelE C S E a) (hf : Fresh S E) (hK : runPath T D n ops X S.rows S.box p (fun _ => true) [] S K = some r) (hq : ∀ S' E' a', K S' = some r → RelE C S' E' a' → Fresh S' E' → Q .normal a' E'.w) : (Code.region id ops true).wp P Q a E.w := by
  refine wp_region_noPanic (wp_region_held hT.mx (S := Held C { E with w := { E.w with drawn := E.w.drawn + 1 } } X) ?_)
  have h2 := h.wide (Wider.drew E.w)
  exact path_ok hP hG hT hD hn hns (E0 := { E with w := { E.w with drawn := E.w.drawn + 1 } }) (q0 := S.nx) (fun id hid => hf id hid) (fun c a w hh => hh) p (pd := []) (dn := fun _ => false) hp (fun e he => by simp at he) ⟨⟨h2, fun id hid => hf id hid, Nat.le_refl _, (show RelE C ⟨clSl (fun _ => true) S.sl, S.rows, S.box, S.nx⟩ _ a from h2), ⟨Env.Le.refl, fun b i _ hb => ⟨.inl hb, rfl⟩⟩⟩, fun p hp => by simp at hp, List.Pairwise.nil⟩ hK (fun S' E' a' k1 k2 k3 => hq S' E' a' k1 k2 k3) (Nat.le_refl _)
theorem loopN_ok {id : Nat} {c : Code} {body : St → (Out → St → Option R) → Option R}
    (hb : ∀ {S : St} {E : Env} {a : Act} {K : Out → St → Option R} {Q : Exit → Act → World → Prop}, RelE C S E a → Fresh S E → body S K = some r → (∀ o S' E' a', K o S' = some r → RelE C S' E' a' → Fresh S' E' → Out.ends Q o a' E'.w) → c.wp P Q a E.w) :
    ∀ (k : Nat) {S : St} {E : Env} {a : Act} {K : Out → St → Option R} {Q : Exit → Act → World → Prop}, RelE C S E a → Fresh S E → loopN id body k S K = some r → (∀ o S' E' a', K o S' = some r → RelE C S' E' a' → Fresh S' E' → Out.ends Q o a' E'.w) → Code.rounds P c (Exit.inBlock id Q) k a E.w
  | 0, S, E, a, K, Q, h, hf, hK, hq => by cases hK
  | k + 1, S, E, a, K, Q, h, hf, hK, hq => by
    rw [rounds_succ]
    refine hb h hf hK (fun o S' E' a' h1 h2 h3 => ?_)
    cases o with
    | normal => exact loopN_ok hb k h2 h3 h1 hq
    | ret => exact hq .ret S' E' a' h1 h2 h3
    | exit j =>
      unfold outIn at h1
      simp only at h1
      show (if j = id then Q .normal a' E'.w else Q (.exit j) a' E'.w)
      split at h1
      · rename_i hb
        rw [if_pos (Nat.eq_of_beq_eq_true hb)]
        exact hq .normal S' E' a' h1 h2 h3
      · rename_i hb
        rw [if_neg (fun e => by subst e; simp at hb)]
        exact hq (.exit j) S' E' a' h1 h2 h3
theorem hint_ok {c : Code} {h : Hint} {n : NS} {G : List (Nat × GV)} (hP : C.P = P) (hG : C.gl = G) (hn : C.n = n) (hh : HintOk P G n c h) (hr : RelE C S E a) (hf : Fresh S E) {K : Out → St → Option R} (hK : (match rdH h.L S with | some x => (h.f x).bind fun y => goWay h.ws y K | none => none) = some r)
    (hq : ∀ o S' E' a', K o S' = some r → RelE C S' E' a' → Fresh S' E' → Out.ends Q o a' E'.w) : c.wp P Q a E.w := by
  split at hK
  · rename_i x hx
    obtain ⟨y, hy, hK2⟩ := Option.bind_eq_some_iff.1 hK
    obtain ⟨o, S', k1, k2⟩ := goWay_pick hK2
    refine wp_mono (hh C S E a x y hP hG hn hr hf hx hy) ?_
    rintro e a' w' ⟨o', S2, E', e1, rfl, e2, e3, rfl⟩
    rw [k1] at e1
    cases e1
    exact ends_iff.1 (hq o S' E' a' k2 e2 e3)
  · cases hK
theorem run_ok (hP : C.P = P) (hG : C.gl = T.gl) (hT : TyOk P T) (hD : DenOk P T.gl D) {n : NS} (hn : C.n = n) {H : Hints} : ∀ (c : Code) {S : St} {E : Env} {a : Act} {K : Out → St → Option R} {Q : Exit → Act → World → Prop}, hintsIn H P T.gl n c → RelE C S E a → Fresh S E → run T D H n c S K = some r →
    (∀ o S' E' a', K o S' = some r → RelE C S' E' a' → Fresh S' E' → Out.ends Q o a' E'.w) → c.wp P Q a E.w
  | .skip, S, E, a, K, Q, hH, h, hf, hK, hq => wp_skip (hq .normal S E a hK h hf)
  | .ret, S, E, a, K, Q, hH, h, hf, hK, hq => wp_ret (hq .ret S E a hK h hf)
  | .exit id, S, E, a, K, Q, hH, h, hf, hK, hq => wp_exit (hq (.exit id) S E a hK h hf)
  | .region id ops false, S, E, a, K, Q, hH, h, hf, hK, hq => wp_region_list (runOps_ok hP hG hT hD hn ops h hf hK (fun S' E' a' h1 h2 h3 => hq .normal S' E' a' h1 h2 h3))
  | .region id ops true, S, E, a, K, Q, hH, h, hf, hK, hq => by
    unfold hintsIn at hH
    unfold run at hK
    split at hK
    · rename_i hh hid
      rw [hid] at hH
      exact hint_ok hP hG hn hH h hf hK hq
    · rename_i hid
      rw [hid] at hH
      simp only at hH
      split at hK
      · rename_i d hd
        rw [hd] at hH
        exact draw_ok hP hG hT hD hn hH.1 hH.2 h hf hK (fun S' E' a' h1 h2 h3 => hq .normal S' E' a' h1 h2 h3)
      · cases hK
  | .seq x y, S, E, a, K, Q, hH, h, hf, hK, hq => by
    refine wp_seq (run_ok hP hG hT hD hn x hH.1 h hf hK (fun o S' E' a' h1 h2 h3 => ?_))
    cases o with
    | normal => exact run_ok hP hG hT hD hn y hH.2 h2 h3 h1 hq
    | exit id => exact hq (.exit id) S' E' a' h1 h2 h3
    | ret => exact hq .ret S' E' a' h1 h2 h3
  | .cond x y z, S, E, a, K, Q, hH, h, hf, hK, hq => by
    simp only [run] at hK
    split at hK
    · rename_i t hx
      have hv : a.eval x = .bool t := VRv.bool (show VRv E.w (E.F C) .bool t _ from eval_one h hx)
      refine wp_cond hv ?_
      split at hK
      · rename_i ht
        have ht' : t = true := ht
        rw [ht', if_pos rfl]
        exact run_ok hP hG hT hD hn y hH.1 h hf hK hq
      · rename_i ht
        have ht' : t = false := by cases t <;> simp_all
        rw [ht']
        exact run_ok hP hG hT hD hn z hH.2 h hf hK hq
    · cases hK
  | .block id c, S, E, a, K, Q, hH, h, hf, hK, hq => by
    unfold run at hK
    unfold hintsIn at hH
    split at hK
    · rename_i hh hid
      rw [hid] at hH
      exact hint_ok hP hG hn hH h hf hK hq
    · rename_i hid
      rw [hid] at hH
      simp only at hH
      split at hK
      · rename_i k hu
        split at hK
        · rename_i c'
          exact wp_block (wp_loop_rounds k (loopN_ok (fun h1 h2 h3 h4 => run_ok hP hG hT hD hn c' hH h1 h2 h3 h4) k h hf hK hq))
        · cases hK
      · refine wp_block (run_ok hP hG hT hD hn c hH h hf hK (fun o S' E' a' h1 h2 h3 => ?_))
        cases o with
        | normal => exact hq .normal S' E' a' h1 h2 h3
        | ret => exact hq .ret S' E' a' h1 h2 h3
        | exit j =>
          unfold outIn at h1
          simp only at h1
          show (if j = id then Q .normal a' E'.w else Q (.exit j) a' E'.w)
          split at h1
          · rename_i hb
            rw [if_pos (Nat.eq_of_beq_eq_true hb)]
            exact hq .normal S' E' a' h1 h2 h3
          · rename_i hb
            rw [if_neg (fun e => by subst e; simp at hb)]
            exact hq (.exit j) S' E' a' h1 h2 h3
  | .loop c, S, E, a, K, Q, hH, h, hf, hK, hq => by simp [run] at hK
  | .rangeFunc f ps x y, S, E, a, K, Q, hH, h, hf, hK, hq => by simp [run] at hK
  | .scope c, S, E, a, K, Q, hH, h, hf, hK, hq => by simp [run] at hK
  | .label l, S, E, a, K, Q, hH, h, hf, hK, hq => by simp [run] at hK
  | .goto l, S, E, a, K, Q, hH, h, hf, hK, hq => by simp [run] at hK
  | .refuse w, S, E, a, K, Q, hH, h, hf, hK, hq => by simp [run] at hK
end
end Go.Proofs.YtdbaglogmdkbpaaDoor.Vm
