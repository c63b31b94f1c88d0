/- The law SymbolRanges: all numbers of a code are one behind the other. No conditions. -/
import Derived.Test.YtabaodikcgaliaaDoorY2
import Derived.Test.YtabaodikcgaliaaDoorPx5
namespace Go.Proofs.YtabaodikcgaliaaDoor.Pure
open Go Go.RowKit Go.Proofs.YtabaodikcgaliaaDoor.P Go.Proofs.YtabaodikcgaliaaDoorW.PrintWords Go.Proofs.YtabaodikcgaliaaDoorW.PrintMore Go.Proofs.YtabaodikcgaliaaDoorW.PrintLast Go.Proofs.YtabaodikcgaliaaDoor.Sy
set_option linter.unusedVariables false
set_option linter.unusedSimpArgs false
theorem ranges_j1 (a0 a1 : Int) : Ev (fun k => footlockerlaw11_SymbolRanges.j1 k a0 a1) true := by
  by_cases h : a0 < 0 ∨ 29 < a0
  · exact Ev.step (fun k => footlockerlaw11_SymbolRanges.j1.eq_2 _ _ _) (Ev.bind (Sy.Ev.const (db_out h)) (Ev.neg (by decide) (Ev.now _)))
  · obtain ⟨c, rfl⟩ : ∃ c : Nat, a0 = c := ⟨a0.toNat, by omega⟩
    have hc : c < 30 := by omega
    obtain ⟨s1, s2, s3, _⟩ := d_sh c hc
    have rc := d_rng c hc
    refine Ev.step (fun k => footlockerlaw11_SymbolRanges.j1.eq_2 _ _ _) (Ev.bind (Sy.Ev.const (db_ev c hc)) (Ev.pos rfl (Ev.pos s2 (Ev.neg (by show ¬ shl .i64 1 (rd symDistBits (c : Int)) = 0; omega) ?_))))
    obtain ⟨v, hv, ev⟩ := and_le a1 8191 (by omega)
    obtain ⟨r0, r1⟩ := tmod_in (v : Int) _ (by omega) s1
    simp only
    rw [show ((8191 : Nat) : Int) = 8191 from rfl] at ev
    rw [ev]
    obtain ⟨r, hr⟩ : ∃ r, Int.tmod (v : Int) (shl .i64 1 (rd symDistBits (c : Int))) = r := ⟨_, rfl⟩
    rw [hr] at r0 r1 ⊢
    rw [wrap_sm (x := rd symDist (c : Int) + r) (by omega) (by omega)]
    have at_ := d_in (n := rd symDist (c : Int) + r) hc (by omega) (by omega)
    refine Ev.bind (dist_ev (by omega) (by omega) at_) (Ev.pos rfl (Ev.pos rfl ?_))
    have e : wrap64 (rd symDist (c : Int) + r - rd symDist (c : Int)) = rd symDist (c : Int) + r - rd symDist (c : Int) := wrap_sm (by omega) (by omega)
    simp only
    rw [e, bne_self_eq_false]
    refine Ev.step (fun k => footlockerlaw11_SymbolRanges.j2.eq_2 _ _ _ _) (Ev.neg (by decide) ?_)
    rw [wrap_sm (by omega) (by omega)]
    by_cases z : (c : Int) > 0
    · have h2 : 1 ≤ rd symDist (c : Int) - 1 := by
        have := d_sorted 0 c (by omega) (by rw [d_len]; exact hc)
        have h5 : rd symDist ((0 : Nat) : Int) = 1 := by decide
        omega
      obtain ⟨t, ht⟩ := d_ex h2
      have := less_at d_sorted ht (c := c) (by omega)
      exact Ev.bind (dist_ev h2 (by omega) ht) (Ev.pos z (Ev.neg (by show ¬ (t : Int) ≥ (c : Int); omega) (Ev.now _)))
    · obtain rfl : c = 0 := by omega
      exact Ev.bind (dist_out (by left; decide)) (Ev.neg z (Ev.now _))
theorem ranges_j0 (c : Nat) (hc : c < 29) (a1 : Int) : Ev (fun k => footlockerlaw11_SymbolRanges.j0 k (257 + (c : Int)) a1 (rd symLen (c : Int)) false) true := by
  have rc := l_rng c hc
  refine Ev.step (fun k => footlockerlaw11_SymbolRanges.j0.eq_2 _ _ _ _ _) (Ev.neg (by decide) ?_)
  rw [wrap_sm (by omega) (by omega)]
  by_cases z : rd symLen (c : Int) - 1 < 3
  · exact Ev.bind (length_out (.inl z)) (Ev.neg (by show ¬ (0 : Int) ≥ 257 + (c : Int); omega) (ranges_j1 _ _))
  · obtain ⟨t, ht⟩ := l_ex (n := rd symLen (c : Int) - 1) (by omega)
    have := less_at l_sorted ht (c := c) (by omega)
    exact Ev.bind (length_ev (by omega) (by omega) ht) (Ev.neg (by show ¬ 257 + (t : Int) ≥ 257 + (c : Int); omega) (ranges_j1 _ _))
theorem SymbolRanges : footlockerlaw11_SymbolRanges.Pure := by
  intro a0 a1 h0 h1
  refine Ev.rounds (g := fun k => footlockerlaw11_SymbolRanges.f k a0 a1) ?_
  refine Ev.congr (fun k => footlockerlaw11_SymbolRanges.f.eq_1 _ _ _) (Ev.bind alive_ev (Ev.pos rfl ?_))
  by_cases h : a0 < 257 ∨ 285 < a0
  · exact Ev.bind (Sy.Ev.const (lb_out h)) (Ev.neg (by decide) (ranges_j1 _ _))
  · obtain ⟨c, rfl⟩ : ∃ c : Nat, a0 = 257 + (c : Int) := ⟨(a0 - 257).toNat, by omega⟩
    have hc : c < 29 := by omega
    obtain ⟨s1, s2, s3, _⟩ := l_sh c hc
    have rc := l_rng c hc
    refine Ev.bind (Sy.Ev.const (lb_ev c hc)) (Ev.pos rfl (Ev.pos s2 (Ev.neg (by show ¬ shl .i64 1 (rd symLenBits (c : Int)) = 0; omega) ?_)))
    obtain ⟨v, hv, ev⟩ := and_le a1 31 (by omega)
    obtain ⟨r0, r1⟩ := tmod_in (v : Int) _ (by omega) s1
    simp only
    rw [show ((31 : Nat) : Int) = 31 from rfl] at ev
    rw [ev]
    obtain ⟨r, hr⟩ : ∃ r, Int.tmod (v : Int) (shl .i64 1 (rd symLenBits (c : Int))) = r := ⟨_, rfl⟩
    rw [hr] at r0 r1 ⊢
    rw [wrap_sm (x := rd symLen (c : Int) + r) (by omega) (by omega)]
    by_cases z : rd symLen (c : Int) + r = 258
    · rw [z]
      refine Ev.bind (length_ev (by decide) (by decide) l_258) (Ev.pos rfl ?_)
      show Ev (fun k => footlockerlaw11_SymbolRanges.j0 k (257 + (c : Int)) a1 (rd symLen (c : Int)) ((257 + ((28 : Nat) : Int)) != 285)) true
      rw [show ((257 + ((28 : Nat) : Int)) != 285) = false by decide]
      exact ranges_j0 c hc a1
    · have at_ := l_in (n := rd symLen (c : Int) + r) hc (by omega) (by omega) (by omega)
      refine Ev.bind (length_ev (by omega) (by omega) at_) (Ev.neg z (Ev.pos rfl (Ev.pos rfl (Ev.pos ?_ (ranges_j0 c hc a1)))))
      show rd symLen (c : Int) + r - rd symLen (c : Int) = wrap64 (rd symLen (c : Int) + r - rd symLen (c : Int))
      exact (wrap_sm (by omega) (by omega)).symm
end Go.Proofs.YtabaodikcgaliaaDoor.Pure
