/- Loops, whole. Conditions: as each theorem states them. -/
import Derived.Test.YtlioalaehkohlaaDoorV17
namespace Go.Proofs.YtlioalaehkohlaaDoor.Vm
open Go Go.RowKit
set_option linter.unusedVariables false
set_option linter.unusedSimpArgs false
def outOf (id : Nat) : Out → Out
  | .exit i => match Nat.beq i id with
    | true => .normal
    | false => .exit i
  | o => o
/-- behind a round -/
def loopK {ws : List (Out × List (Nat × CS))} (id : Nat) (L : List (Nat × CS)) (g : CSs.den L → Option (wayDen ws)) (o : Out) (S : St) : Option (wayDen ws) := match o with
  | .normal => match rdH L S with
    | some x => g x
    | none => none
  | o => mkW (outOf id o) S ws some
/-- A loop, by its typed function. -/
theorem loop_ok {P : Program} {T : Tys} {D : FuncId → Nat → Option Den} {H : Hints} (hT : TyOk P T) (hD : DenOk P T.gl D) {n : NS} {id : Nat} {c : Code} (hH : hintsIn H P T.gl n c) (L : List (Nat × CS)) (ws : List (Out × List (Nat × CS)))
    (hL : ∀ x, Nat.ble (canL L x 0).2.length 1000 = true) (hws : ∀ w ∈ ws, ∀ x, Nat.ble (canL w.2 x 0).2.length 1000 = true)
    (G : Nat → CSs.den L → Option (wayDen ws)) (h0 : ∀ x, G 0 x = none) (hs : ∀ k x, run T D H n c (canon L x) (loopK id L (G k)) = G (k + 1) x) (k : Nat) : HintOk P T.gl n (.block id (.loop c)) ⟨L, ws, G k⟩ := by
  intro C S E a x y hP hG hn hR hF hx hy
  simp only at hx hy ⊢
  refine wp_block (wp_loop_rounds k ?_)
  revert S E a x hR hF hx hy
  induction k with
  | zero => intro S E a x hR hF hx hy; rw [h0] at hy; cases hy
  | succ k ih =>
    intro S E a x hR hF hx hy
    rw [rounds_succ]
    obtain ⟨E1, e1, e2, e3⟩ := canon_same hR hx (.inr trivial)
    rw [← e1]
    have hrun := hs k x
    rw [hy] at hrun
    refine run_ok hP hG hT hD hn c hH e2 (fresh_canon e3 (canon_le hL x)) hrun (fun o S' E' a' hK h' hf' => ?_)
    have ext : mkW (outOf id o) S' ws some = some y → Exit.inBlock id (fun e a' w' => ∃ o S' E', pickWay ws y = some (o, S') ∧ E'.w = w' ∧ RelE C S' E' a' ∧ Fresh S' E' ∧ e = exitOf o) (exitOf o) a' E'.w := by
      intro hm
      obtain ⟨y', v, z, l1, hv, l2, l3⟩ := mkW_ok hm
      cases l1
      obtain ⟨E2, f1, f2, f3⟩ := canon_same h' l2 (.inr trivial)
      have f4 : Fresh (canon v.2 z) E2 := fresh_canon f3 (canon_le (hws v hv) z)
      have fin : ∃ o' S2 E2, pickWay ws y = some (o', S2) ∧ E2.w = E'.w ∧ RelE C S2 E2 a' ∧ Fresh S2 E2 ∧ exitOf (outOf id o) = exitOf o' := ⟨_, _, E2, l3, f1, f2, f4, rfl⟩
      cases o with
      | normal => exact fin
      | ret => exact fin
      | exit i =>
        show (if i = id then _ else _)
        by_cases hi : i = id
        · rw [if_pos hi]
          subst hi
          simpa [outOf, exitOf] using fin
        · rw [if_neg hi]
          have hb : Nat.beq i id = false := by cases hb : Nat.beq i id <;> first | rfl | exact absurd (Nat.eq_of_beq_eq_true hb) hi
          simpa [outOf, exitOf, hb] using fin
    cases o with
    | normal =>
      simp only [loopK] at hK
      split at hK
      · rename_i x' hx'
        exact ih y S' E' a' x' h' hf' hx' hK
      · cases hK
    | exit i => exact ext hK
    | ret => exact ext hK
end Go.Proofs.YtlioalaehkohlaaDoor.Vm
