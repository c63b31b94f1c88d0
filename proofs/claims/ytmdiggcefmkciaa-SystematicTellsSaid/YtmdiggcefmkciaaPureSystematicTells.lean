/- Of a codeword any n bytes tell all; no further conditions. -/
import Derived.Test.YtmdiggcefmkciaaL04
import Derived.Test.YtmdiggcefmkciaaPx10
namespace Go.Proofs.Ytmdiggcefmkciaa.Pure
open Go Go.RowKit Go.Proofs.YtmdiggcefmkciaaW.PrintWords Go.Proofs.YtmdiggcefmkciaaW.PrintMore Go.Proofs.Ytmdiggcefmkciaa.P Go.Proofs.Ytmdiggcefmkciaa.Al
set_option linter.unusedVariables false
set_option linter.unusedSimpArgs false

theorem tells_l0 (d w : List G) (there : List Bool) (h0 : 0 < d.length) (hdl : d.length ≤ 12) (hw : w.length ≤ 24) (hdw : d.length ≤ w.length) (hl : w.length = there.length) (hW : IsWord w d.length) (e : Nat) :
    ∀ (v : List G) (n : Nat), n + e = w.length → v.length = w.length → (∀ i, i < w.length → there.getD i false = true → co v i = co w i) →
    Ev (fun k => footlockerlaw04_SystematicTells.l0 k (bs d) there (bs w) (bs v) (count there n : Int) there (there.length : Int) (n : Int)) true := by
  have hcl : ∀ m, count there m ≤ m := by
    intro m
    induction m with
    | zero => exact Nat.le_refl _
    | succ m ih => simp only [count]; split <;> omega
  induction e with
  | zero =>
    intro v n hn hv h
    obtain rfl : n = w.length := by omega
    refine Ev.step (fun k => footlockerlaw04_SystematicTells.l0.eq_2 _ _ _ _ _ _ _ _ _) (Ev.neg (by omega) ?_)
    have hf := fill_ev v there d.length h0 (by omega) (by omega) (by omega)
    rw [hv] at hf
    rw [bs_length]
    refine Ev.bind hf ?_
    have hc := firstN_count there d.length w.length
    by_cases hlt : count there w.length < d.length
    · rw [if_pos (show (firstN there d.length w.length).length < d.length by omega)]
      exact Ev.neg (by omega) (Ev.pos (by omega) (Ev.now _))
    · have hnl : ¬ (firstN there d.length w.length).length < d.length := by omega
      rw [if_neg hnl]
      have hfw := filled_word (there := there) (by omega) hv hW hnl h
      rw [hfw]
      exact Ev.pos (by omega) (Ev.pos rfl (Ev.bind (same_true rfl (by dsimp only; rw [bs_length]; omega)) (Ev.pos rfl (Ev.now _))))
  | succ e ih =>
    intro v n hn hv h
    refine Ev.step (fun k => footlockerlaw04_SystematicTells.l0.eq_2 _ _ _ _ _ _ _ _ _) (Ev.pos (by omega) (Ev.pos (by omega) (Ev.pos (by omega) ?_)))
    rw [rdOf_nat, wrap_succ (n := n) (by omega)]
    have hc := hcl n
    by_cases ht : there.getD n false = true
    · refine Ev.pos ht ?_
      rw [wrap_succ (n := count there n) (by omega)]
      have := ih v (n + 1) (by omega) hv h
      simp only [count, if_pos ht] at this
      exact this
    · refine Ev.neg ht (Ev.pos (by rw [bs_length]; omega) ?_)
      rw [rd_bs, show (90 : Int) = (G.of 90).i from rfl, xor_i, Int.toNat_natCast, bs_set]
      have := ih (v.set n (co v n + G.of 90)) (n + 1) (by omega) (by rw [List.length_set]; exact hv) (fun i hi hti => by
        rw [co_set _ _ _ _ (by omega)]
        by_cases ei : i = n
        · rw [ei] at hti
          exact absurd hti ht
        · rw [if_neg ei]
          exact h i hi hti)
      simp only [count, if_neg ht, Nat.add_zero] at this
      exact this
theorem SystematicTells : footlockerlaw04_SystematicTells.Pure := by
  rintro l0 a1 there ⟨_, h0⟩ h1 _
  obtain ⟨d, rfl⟩ := bytes_in h0
  have ha := wf_i64 h1
  apply Ev.rounds
  refine Ev.congr (fun k => footlockerlaw04_SystematicTells.f.eq_1 _ _ _ _) (Ev.bind alive_ev (Ev.pos rfl ?_))
  have big : Ev (fun k => footlockerlaw04_SystematicTells.j0 k (bs d) a1 there true) true :=
    Ev.step (fun k => footlockerlaw04_SystematicTells.j0.eq_2 _ _ _ _ _) (Ev.pos rfl (Ev.now _))
  rw [bs_length]
  by_cases c1 : (d.length : Int) = 0
  · exact Ev.pos c1 big
  refine Ev.neg c1 ?_
  by_cases c2 : (d.length : Int) > 12
  · exact Ev.pos c2 big
  refine Ev.neg c2 ?_
  by_cases c3 : a1 < 0
  · exact Ev.pos c3 big
  refine Ev.neg c3 ?_
  by_cases c4 : a1 > 12
  · exact Ev.pos c4 big
  refine Ev.neg c4 ?_
  obtain ⟨k, rfl⟩ : ∃ k : Nat, a1 = (k : Int) := ⟨a1.toNat, by omega⟩
  have hw : wrap64 ((d.length : Int) + (k : Int)) = ((d.length + k : Nat) : Int) := by rw [Al.wrap_sm (by omega) (by omega)]; omega
  rw [hw]
  by_cases c5 : there.length = d.length + k
  · rw [show ((there.length : Int) != ((d.length + k : Nat) : Int)) = false by rw [c5]; exact bne_self_eq_false _]
    refine Ev.step (fun k => footlockerlaw04_SystematicTells.j0.eq_2 _ _ _ _ _) (Ev.neg (by simp) (Ev.bind (encode_ev d k (by omega) (by omega)) ?_))
    rw [copy_some _ (by rw [bs_length]; omega)]
    refine Ev.somef (Ev.pos (by rw [bs_length]; dsimp only; rw [bs_length, more_length]; omega) (Ev.somef ?_))
    dsimp only
    rw [← bs_append, word_eq d k (by omega)]
    refine Ev.pos (by rw [bs_length, word_length]; omega) ?_
    have hW := word_isWord d k (by omega)
    have hl := word_length d k
    rw [bs_length]
    refine Ev.bind (is_true (word d k) d.length (by omega) (by omega) (by omega) hW) ?_
    refine Ev.step (fun k => footlockerlaw04_SystematicTells.j1.eq_2 _ _ _ _ _) (Ev.neg (by simp) ?_)
    rw [copy_some _ (by rw [bs_length]; omega)]
    refine Ev.somef ?_
    exact tells_l0 d (word d k) there (by omega) (by omega) (by omega) (by omega) (by omega) hW (word d k).length (word d k) 0 (by omega) rfl (fun i _ _ => rfl)
  · rw [show ((there.length : Int) != ((d.length + k : Nat) : Int)) = true by rw [bne_iff_ne]; omega]
    exact big
end Go.Proofs.Ytmdiggcefmkciaa.Pure
