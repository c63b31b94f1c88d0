/- With more bytes to follow the first ones are the same; a codeword for n is one for more; any beginning that is long enough is one; no further conditions. -/
import Derived.Test.YtmdiggcefmkciaaL04
import Derived.Test.YtmdiggcefmkciaaPx12
namespace Go.Proofs.Ytmdiggcefmkciaa.Pure
open Go Go.RowKit Go.Proofs.YtmdiggcefmkciaaW.PrintWords Go.Proofs.YtmdiggcefmkciaaW.PrintMore Go.Proofs.Ytmdiggcefmkciaa.P Go.Proofs.Ytmdiggcefmkciaa.Al
set_option linter.unusedVariables false
set_option linter.unusedSimpArgs false

theorem more_l0 (d : List G) (k : Nat) (h0 : 0 < d.length) (hl : d.length + k ≤ 100) (e : Nat) : ∀ n : Nat, n + e = d.length + k + 1 → d.length ≤ n →
    Ev (fun f => footlockerlaw04_SystematicMore.l0 f (d.length : Int) (bs (word d k)) (n : Int)) true := by
  have hw := word_length d k
  have hW := word_isWord d k (by omega)
  induction e with
  | zero =>
    intro n hn hle
    have e1 : wrap64 (((bs (word d k)).length : Int) - 1) = ((d.length + k - 1 : Nat) : Int) := by rw [bs_length, hw, Al.wrap_sm (by omega) (by omega)]; omega
    refine Ev.step (fun k => footlockerlaw04_SystematicMore.l0.eq_2 _ _ _ _) (Ev.neg (by rw [bs_length]; omega) ?_)
    rw [e1]
    refine Ev.bind (at_ev (word d k) d.length (d.length + k - 1) (by omega) (by omega) (by omega) (by omega)) (Ev.pos rfl (Ev.pos (by omega) (Ev.pos (by rw [bs_length]; omega) ?_)))
    rw [rd_bs, word_take d k (by omega)]
    have : co (word d k) (d.length + k - 1) = ev (gen d) (pl (d.length + k - 1)) := by rw [word, co_vals (by omega)]
    rw [this]
    dsimp only
    rw [show (((ev (gen d) (pl (d.length + k - 1))).i == (ev (gen d) (pl (d.length + k - 1))).i) = true) from by simp]
    exact Ev.now _
  | succ e ih =>
    intro n hn hle
    refine Ev.step (fun k => footlockerlaw04_SystematicMore.l0.eq_2 _ _ _ _) (Ev.pos (by rw [bs_length]; omega) ?_)
    refine Ev.bind (is_true (word d k) n (by omega) (by omega) (by omega) (isWord_mono hle hW)) (Ev.pos rfl (Ev.pos (by omega) ?_))
    rw [Int.toNat_natCast, bs_take]
    refine Ev.bind (is_true ((word d k).take n) d.length (by omega) (by rw [List.length_take]; omega) (by rw [List.length_take]; omega) (isWord_take hW)) (Ev.pos rfl ?_)
    rw [wrap_succ (by omega)]
    exact ih (n + 1) (by omega) (by omega)
theorem more_take (d : List G) (k m : Nat) : (more d (k + m)).take k = more d k := by
  apply ext_co
  · rw [List.length_take, more_length, more_length]; omega
  · intro i hi
    rw [List.length_take, more_length] at hi
    rw [co_take, if_pos (by omega), more, more, co_tab, co_tab, if_pos (by omega), if_pos (by omega)]
theorem SystematicMore : footlockerlaw04_SystematicMore.Pure := by
  intro l0 a1 a2 _ _ h0 h1 h2
  obtain ⟨d, rfl⟩ := bytes_in h0
  have ha := wf_i64 h1
  apply Ev.rounds
  refine Ev.congr (fun k => footlockerlaw04_SystematicMore.f.eq_1 _ _ _ _) (Ev.bind alive_ev (Ev.pos rfl ?_))
  have big : Ev (fun k => footlockerlaw04_SystematicMore.j0 k (bs d) a1 a2 (d.length : Int) true) true :=
    Ev.step (fun k => footlockerlaw04_SystematicMore.j0.eq_2 _ _ _ _ _ _) (Ev.pos rfl (Ev.now _))
  rw [bs_length]
  by_cases c1 : (d.length : Int) = 0
  · exact Ev.pos c1 big
  refine Ev.neg c1 ?_
  by_cases c2 : (d.length : Int) > 12
  · exact Ev.pos c2 big
  refine Ev.neg c2 ?_
  by_cases c3 : a1 < 0
  · exact Ev.pos c3 big
  refine Ev.neg c3 ?_
  by_cases c4 : a1 > 6
  · rw [decide_eq_true c4]
    exact big
  rw [decide_eq_false c4]
  obtain ⟨k, rfl⟩ : ∃ k : Nat, a1 = (k : Int) := ⟨a1.toNat, by omega⟩
  obtain ⟨c, hc, e⟩ := and_le a2 7 (by decide)
  have hw : wrap64 ((k : Int) + Go.bits .and .i64 a2 7) = ((k + c : Nat) : Int) := by
    rw [show (7 : Int) = ((7 : Nat) : Int) from rfl, e, Al.wrap_sm (by omega) (by omega)]; omega
  refine Ev.step (fun k => footlockerlaw04_SystematicMore.j0.eq_2 _ _ _ _ _ _) (Ev.neg (by simp) (Ev.bind (encode_ev d k (by omega) (by omega)) ?_))
  rw [hw]
  refine Ev.bind (encode_ev d (k + c) (by omega) (by omega)) (Ev.pos rfl (Ev.pos rfl (Ev.pos (by rw [bs_length, more_length]) (Ev.pos (by rw [bs_length, more_length]) (Ev.pos (by omega) (Ev.pos (by rw [bs_length, more_length]; omega) ?_))))))
  rw [Int.toNat_natCast]
  dsimp only
  rw [bs_take, more_take]
  refine Ev.bind (same_true rfl (by rw [bs_length, more_length]; omega)) ?_
  refine Ev.step (fun k => footlockerlaw04_SystematicMore.j1.eq_2 _ _ _ _ _) (Ev.neg (by simp) ?_)
  rw [copy_some _ (by rw [bs_length]; omega)]
  refine Ev.somef (Ev.pos (by rw [bs_length, bs_length, more_length]; omega) ?_)
  rw [← bs_append, word_eq d (k + c) (by omega)]
  exact more_l0 d (k + c) (by omega) (by omega) (k + c + 1) d.length (by omega) (Nat.le_refl _)
end Go.Proofs.Ytmdiggcefmkciaa.Pure
