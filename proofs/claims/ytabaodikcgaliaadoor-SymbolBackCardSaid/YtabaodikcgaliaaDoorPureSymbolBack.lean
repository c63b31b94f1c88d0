/- The law SymbolBack: the base of a code, and the bits, are what was asked for. No conditions. -/
import Derived.Test.YtabaodikcgaliaaDoorY2
import Derived.Test.YtabaodikcgaliaaDoorPx4
namespace Go.Proofs.YtabaodikcgaliaaDoor.Pure
open Go Go.RowKit Go.Proofs.YtabaodikcgaliaaDoor.P Go.Proofs.YtabaodikcgaliaaDoorW.PrintWords Go.Proofs.YtabaodikcgaliaaDoorW.PrintMore Go.Proofs.YtabaodikcgaliaaDoorW.PrintLast Go.Proofs.YtabaodikcgaliaaDoor.Sy
set_option linter.unusedVariables false
set_option linter.unusedSimpArgs false
theorem mn_eq (a b : Int) : mn a b = if b < a then b else a := by unfold mn; rfl
theorem SymbolBack : footlockerlaw11_SymbolBack.Pure := by
  intro a0 a1 h0 h1
  refine Ev.rounds (g := fun k => footlockerlaw11_SymbolBack.f k a0 a1) ?_
  obtain ⟨m, em, m0, m1⟩ := held_ev a0 3 258 (by decide)
  obtain ⟨n, en, n0, n1⟩ := held_ev a1 1 32768 (by decide)
  obtain ⟨t, ht⟩ := l_ex m0
  obtain ⟨s, hs⟩ := d_ex n0
  have lt := ht.lt
  have ls := hs.lt
  rw [l_len] at lt
  rw [d_len] at ls
  have rt := l_rng t lt
  have rs := d_rng s ls
  have tle := ht.le
  have sle := hs.le
  refine Ev.congr (fun k => footlockerlaw11_SymbolBack.f.eq_1 _ _ _) (Ev.bind alive_ev (Ev.pos rfl (Ev.bind (Sy.Ev.const em) (Ev.bind (Sy.Ev.const en) (Ev.bind (length_ev m0 m1 ht) (Ev.bind (Sy.Ev.const (lb_ev t lt)) (Ev.pos rfl (Ev.pos rfl ?_))))))))
  refine Ev.pos (by show wrap64 (rd symLen (t : Int) + (m - rd symLen (t : Int))) = m; rw [wrap_sm (by omega) (by omega)]; omega) (Ev.neg (by show ¬ m - rd symLen (t : Int) < 0; omega) (Ev.pos (l_sh t lt).2.1 ?_))
  show Ev (fun k => footlockerlaw11_SymbolBack.j0 k m n (257 + (t : Int)) (decide (m - rd symLen (t : Int) ≥ shl .i64 1 (rd symLenBits (t : Int))))) true
  rw [decide_eq_false (by have := l_fit m1 ht; omega)]
  refine Ev.step (fun k => footlockerlaw11_SymbolBack.j0.eq_2 _ _ _ _ _) (Ev.neg (by decide) (Ev.bind (dist_ev n0 n1 hs) (Ev.bind (Sy.Ev.const (db_ev s ls)) (Ev.pos rfl (Ev.pos rfl ?_)))))
  refine Ev.pos (by show wrap64 (rd symDist (s : Int) + (n - rd symDist (s : Int))) = n; rw [wrap_sm (by omega) (by omega)]; omega) (Ev.neg (by show ¬ n - rd symDist (s : Int) < 0; omega) (Ev.pos (d_sh s ls).2.1 ?_))
  show Ev (fun k => footlockerlaw11_SymbolBack.j1 k m n (257 + (t : Int)) (s : Int) (decide (n - rd symDist (s : Int) ≥ shl .i64 1 (rd symDistBits (s : Int))))) true
  rw [decide_eq_false (by have := d_fit n1 hs; omega)]
  refine Ev.step (fun k => footlockerlaw11_SymbolBack.j1.eq_2 _ _ _ _ _ _) (Ev.neg (by decide) ?_)
  obtain ⟨m', hm', p0, p1, p2⟩ : ∃ m', mn (wrap64 (m + 1)) 258 = m' ∧ m ≤ m' ∧ m' ≤ m + 1 ∧ m' ≤ 258 := by
    rw [wrap_sm (by omega) (by omega)]
    refine ⟨_, rfl, ?_, ?_, ?_⟩ <;> (rw [mn_eq]; split <;> omega)
  obtain ⟨n', hn', q0, q1, q2⟩ : ∃ n', mn (wrap64 (n + 1)) 32768 = n' ∧ n ≤ n' ∧ n' ≤ n + 1 ∧ n' ≤ 32768 := by
    rw [wrap_sm (by omega) (by omega)]
    refine ⟨_, rfl, ?_, ?_, ?_⟩ <;> (rw [mn_eq]; split <;> omega)
  rw [hm', hn']
  obtain ⟨t', ht'⟩ := l_ex (n := m') (by omega)
  obtain ⟨s', hs'⟩ := d_ex (n := n') (by omega)
  have c1 := next_at l_sorted ht ht' p0 p1
  have c2 := next_at d_sorted hs hs' q0 q1
  refine Ev.bind (length_ev (by omega) p2 ht') (Ev.bind (dist_ev (by omega) q2 hs') ?_)
  refine Ev.pos (by show 257 + (t' : Int) ≥ 257 + (t : Int); omega) (Ev.pos (by show 257 + (t' : Int) ≤ wrap64 (257 + (t : Int) + 1); rw [wrap_sm (by omega) (by omega)]; omega) (Ev.pos (by show (s' : Int) ≥ (s : Int); omega) ?_))
  refine evc (Ev.now _) (decide_eq_true ?_)
  show (s' : Int) ≤ wrap64 ((s : Int) + 1)
  rw [wrap_sm (by omega) (by omega)]
  omega
end Go.Proofs.YtabaodikcgaliaaDoor.Pure
