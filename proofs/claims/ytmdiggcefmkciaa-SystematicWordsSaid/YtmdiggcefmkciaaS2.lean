/- The document's codewords are those of the theory. Conditions: as each theorem states them. -/
import Derived.Test.YtmdiggcefmkciaaS1
import Derived.Test.YtmdiggcefmkciaaPx7
namespace Go.Proofs.Ytmdiggcefmkciaa.Al
open Go Go.RowKit Go.Proofs.YtmdiggcefmkciaaW.PrintWords Go.Proofs.YtmdiggcefmkciaaW.PrintMore Go.Proofs.Ytmdiggcefmkciaa.P
set_option linter.unusedVariables false
set_option linter.unusedSimpArgs false

theorem refword_l0 (p : List G) (m : Nat) (hp : p.length < 1000000) (hm : m < 1000000) (d : Nat) : ∀ n : Nat, n + d = m → Ev (fun f => footlockerref04_Word.l0 f (m : Int) (bs p) (bs (vals p n)) (n : Int)) (bs (vals p m)) := by
  induction d with
  | zero =>
    intro n hn
    obtain rfl : n = m := by omega
    exact Ev.step (fun k => footlockerref04_Word.l0.eq_2 _ _ _ _ _) (Ev.neg (by omega) (Ev.now _))
  | succ d ih =>
    intro n hn
    refine Ev.step (fun k => footlockerref04_Word.l0.eq_2 _ _ _ _ _) (Ev.pos (by omega) ?_)
    rw [pl_i]
    refine Ev.bind (refeval_ev _ _ (by omega)) (Ev.pos (by rw [bs_length, vals_length]; omega) ?_)
    rw [vals, tab_bs n (fun i => ev p (pl i)), wrap_succ (by omega)]
    exact ih (n + 1) (by omega)
theorem refword_ev (xs ys : List G) (m : Nat) (hd : xs.Nodup) (hl : xs.length = ys.length) (hx : xs.length < 1000) (hm : m < 1000000) : Ev (fun f => footlockerref04_Word.f f (bs xs) (bs ys) (m : Int)) (bs (vals (interp xs ys) m)) := by
  have := (interp_facts (ys := ys) hd).1
  exact Ev.congr (fun k => footlockerref04_Word.f.eq_1 _ _ _ _) (Ev.bind (refthrough_ev xs ys hd hl (by omega)) (refword_l0 _ m (by omega) hm m 0 (by omega)))
theorem of_l0 (d : List G) (k : Nat) (hd : d.length ≤ 256) (hk : k < 100000) (e : Nat) : ∀ n : Nat, n + e = d.length → Ev (fun f => footlockerref04_Of.l0 f (bs d) (k : Int) (bs (places n)) (n : Int)) (bs (word d k)) := by
  induction e with
  | zero =>
    intro n hn
    obtain rfl : n = d.length := by omega
    have hw : wrap64 (((bs d).length : Int) + (k : Int)) = ((d.length + k : Nat) : Int) := by rw [bs_length, wrap_sm (by omega) (by omega)]; omega
    refine Ev.step (fun k => footlockerref04_Of.l0.eq_2 _ _ _ _ _) (Ev.neg (by rw [bs_length]; omega) ?_)
    rw [hw]
    exact Ev.bind (refword_ev (places d.length) d (d.length + k) (places_nodup hd) (places_length _) (by rw [places_length]; omega) (by omega)) (Ev.now _)
  | succ e ih =>
    intro n hn
    refine Ev.step (fun k => footlockerref04_Of.l0.eq_2 _ _ _ _ _) (Ev.pos (by rw [bs_length]; omega) (Ev.pos (by rw [bs_length, places_length]; omega) ?_))
    rw [pl_i, places, tab_bs n pl, wrap_succ (by omega)]
    exact ih (n + 1) (by omega)
theorem of_ev (d : List G) (k : Nat) (hd : d.length ≤ 256) (hk : k < 100000) : Ev (fun f => footlockerref04_Of.f f (bs d) (k : Int)) (bs (word d k)) :=
  Ev.congr (fun k => footlockerref04_Of.f.eq_1 _ _ _) (of_l0 d k hd hk d.length 0 (by omega))
end Go.Proofs.Ytmdiggcefmkciaa.Al
