/- Of all rows what follows, whether it is a codeword, and what fills it, are as the document says; no further conditions. -/
import Derived.Test.YtmdiggcefmkciaaL04
import Derived.Test.YtmdiggcefmkciaaS3
import Derived.Test.YtmdiggcefmkciaaPx9
namespace Go.Proofs.Ytmdiggcefmkciaa.Pure
open Go Go.RowKit Go.Proofs.YtmdiggcefmkciaaW.PrintWords Go.Proofs.YtmdiggcefmkciaaW.PrintMore Go.Proofs.Ytmdiggcefmkciaa.P Go.Proofs.Ytmdiggcefmkciaa.Al
set_option linter.unusedVariables false
set_option linter.unusedSimpArgs false

theorem words_j5_no (w : List G) (n i : Int) (h : ¬ May w n ∨ i < 0 ∨ i ≥ 255) : Ev (fun f => footlockerlaw04_SystematicWords.j5 f (bs w) n i (decide (May w n)) 0 false true) true := by
  refine Ev.step (fun k => footlockerlaw04_SystematicWords.j5.eq_2 _ _ _ _ _ _ _ _) (Ev.pos rfl (Ev.neg (by simp) (Ev.pos rfl ?_)))
  by_cases hm : May w n
  · exact Ev.pos (decide_eq_true hm) (Ev.now _)
  · refine Ev.neg (by simpa using hm) (Ev.bind (is_no w n hm) (Ev.now _))
theorem isWord_same (w : List G) (n : Nat) (h1 : 1 ≤ n) (hn : n ≤ w.length) (hw : w.length ≤ 255) : IsWord w n ↔ word (w.take n) (w.length - n) = w := by
  have hl : (w.take n).length = n := by rw [List.length_take]; omega
  constructor
  · exact fun h => (isWord_word hn hw h).symm
  · intro h
    have := word_isWord (w.take n) (w.length - n) (by omega)
    rw [h, hl] at this
    exact this
theorem words_j5 (w : List G) (n i : Nat) (h1 : 1 ≤ n) (hn : n ≤ w.length) (hw : w.length ≤ 24) (hi : i < 255) (b : Bool) :
    Ev (fun f => footlockerlaw04_SystematicWords.j5 f (bs w) (n : Int) (i : Int) b (ev (gen (w.take n)) (pl i)).i true false) true := by
  have hl : (w.take n).length = n := by rw [List.length_take]; omega
  refine Ev.step (fun k => footlockerlaw04_SystematicWords.j5.eq_2 _ _ _ _ _ _ _ _) (Ev.neg (by simp) (Ev.pos (by omega) (Ev.pos (by rw [bs_length]; omega) ?_)))
  obtain ⟨m, hm⟩ : ∃ m, m = i + 1 - n := ⟨_, rfl⟩
  have hmx : mx (wrap64 (wrap64 ((i : Int) - (n : Int)) + 1)) 0 = (m : Int) := by
    rw [Al.wrap_sm (x := (i : Int) - (n : Int)) (by omega) (by omega), Al.wrap_sm (by omega) (by omega)]
    unfold mx
    split <;> omega
  have hw2 : wrap64 (((bs w).length : Int) - (n : Int)) = ((w.length - n : Nat) : Int) := by rw [bs_length, Al.wrap_sm (by omega) (by omega)]; omega
  rw [hmx, hw2, Int.toNat_natCast, bs_take]
  have hwl := word_length (w.take n) m
  refine Ev.bind (of_ev (w.take n) m (by omega) (by omega)) (Ev.pos rfl (Ev.pos (by omega) (Ev.pos (by rw [bs_length]; omega) ?_)))
  rw [rd_bs]
  haveI : Decidable (IsWord w n) := Classical.propDecidable _
  refine Ev.pos (by rw [word, co_vals (by omega)]) (Ev.bind (is_ev w n h1 hn (by omega)) (Ev.bind (of_ev (w.take n) (w.length - n) (by omega) (by omega)) (Ev.bind (same_ev _ _ (by rw [bs_length, word_length]; omega)) ?_)))
  have : (decide (IsWord w n) == decide (bs (word (w.take n) (w.length - n)) = bs w)) = true := by
    rw [beq_iff_eq, decide_eq_decide, bs_inj]
    exact isWord_same w n h1 hn (by omega)
  rw [this]
  exact Ev.now _
theorem words_j4 (w : List G) (n i : Int) (hw : w.length ≤ 24) (hi : i ≤ 9223372036854775807) : Ev (fun f => footlockerlaw04_SystematicWords.j4 f (bs w) n i false) true := by
  refine Ev.step (fun k => footlockerlaw04_SystematicWords.j4.eq_2 _ _ _ _ _) (Ev.neg (by simp) ?_)
  rw [refmay_some]
  refine Ev.somef ?_
  by_cases hm : May w n
  · by_cases h : i < 0 ∨ i ≥ 255
    · refine Ev.bind (at_no w n i (.inr h)) (Ev.pos (decide_eq_true hm) ?_)
      have := words_j5_no w n i (.inr h)
      by_cases h0 : i < 0
      · exact Ev.pos h0 this
      · refine Ev.neg h0 ?_
        rw [decide_eq_true (h.resolve_left h0)]
        exact this
    · obtain ⟨n, rfl⟩ : ∃ m : Nat, n = (m : Int) := ⟨n.toNat, by have := hm.1; omega⟩
      obtain ⟨i, rfl⟩ : ∃ m : Nat, i = (m : Int) := ⟨i.toNat, by omega⟩
      have h1 := hm.1
      have h2 := hm.2.1
      refine Ev.bind (at_ev w n i (by omega) (by omega) (by omega) (by omega)) (Ev.pos (decide_eq_true hm) (Ev.neg (by omega) ?_))
      rw [show (decide ((i : Int) ≥ 255)) = false from decide_eq_false (by omega)]
      exact words_j5 w n i (by omega) (by omega) hw (by omega) _
  · refine Ev.bind (at_no w n i (.inl hm)) (Ev.neg (by simpa using hm) (words_j5_no w n i (.inl hm)))
theorem words_j3 (w : List G) (there : List Bool) (n i : Int) (hw : w.length ≤ 24) (hi : i ≤ 9223372036854775807) : Ev (fun f => footlockerlaw04_SystematicWords.j3 f (bs w) there n i) true := by
  refine Ev.step (fun k => footlockerlaw04_SystematicWords.j3.eq_2 _ _ _ _ _) ?_
  have h4 := words_j4 w n i hw hi
  by_cases h : w.length ≠ there.length ∨ ¬ May w n
  · exact Ev.bind (fill_no w there n h) (Ev.bind (reffill_no w there n h) (Ev.pos rfl (Ev.bind (same_true rfl (by simp)) h4)))
  · have hl : w.length = there.length := Classical.byContradiction (fun e => h (.inl e))
    have hm : May w n := Classical.byContradiction (fun e => h (.inr e))
    obtain ⟨n, rfl⟩ : ∃ m : Nat, n = (m : Int) := ⟨n.toNat, by have := hm.1; omega⟩
    have h1 := hm.1
    have h2 := hm.2.1
    refine Ev.bind (fill_ev w there n (by omega) (by omega) (by omega) hl) (Ev.bind (reffill_ev w there n (by omega) (by omega) (by omega) hl) (Ev.pos rfl (Ev.bind (same_true rfl ?_) h4)))
    split
    · simp
    · dsimp only
      rw [bs_length, filled, vals_length]
      omega
theorem SystematicWords : footlockerlaw04_SystematicWords.Pure := by
  rintro l0 there n k i ⟨_, h0⟩ _ _ hk hi
  obtain ⟨w, rfl⟩ := bytes_in h0
  have hk := wf_i64 hk
  have hi := (wf_i64 hi).2
  apply Ev.rounds
  refine Ev.congr (fun k => footlockerlaw04_SystematicWords.f.eq_1 _ _ _ _ _ _) (Ev.bind alive_ev (Ev.pos rfl ?_))
  have big : Ev (fun f => footlockerlaw04_SystematicWords.j0 f (bs w) there n k i true) true :=
    Ev.step (fun k => footlockerlaw04_SystematicWords.j0.eq_2 _ _ _ _ _ _ _) (Ev.pos rfl (Ev.now _))
  rw [bs_length]
  by_cases c1 : (w.length : Int) > 24
  · exact Ev.pos c1 big
  refine Ev.neg c1 ?_
  by_cases c2 : (there.length : Int) > 24
  · exact Ev.pos c2 big
  refine Ev.neg c2 ?_
  have h3 := words_j3 w there n i (by omega) hi
  have small : (k ≤ 24 ∨ 231 ≤ k) → Ev (fun f => footlockerlaw04_SystematicWords.j0 f (bs w) there n k i false) true := by
    intro hk2
    refine Ev.step (fun k => footlockerlaw04_SystematicWords.j0.eq_2 _ _ _ _ _ _ _) (Ev.neg (by simp) ?_)
    by_cases ha : w.length = 0 ∨ k < 0
    · refine Ev.bind (encode_arg w k ha) ?_
      have hj : Ev (fun f => footlockerlaw04_SystematicWords.j1 f (bs w) there n k i [] 1 true) true :=
        Ev.step (fun k => footlockerlaw04_SystematicWords.j1.eq_2 _ _ _ _ _ _ _ _ _) (Ev.pos rfl (Ev.pos rfl (Ev.neg (by simp) h3)))
      rw [bs_length]
      by_cases h0 : (w.length : Int) = 0
      · exact Ev.pos h0 hj
      · refine Ev.neg h0 ?_
        rw [decide_eq_true (ha.resolve_left (by omega))]
        exact hj
    · have h0 : w.length ≠ 0 := fun e => ha (.inl e)
      have hk0 : ¬ k < 0 := fun e => ha (.inr e)
      have hw1 : k ≤ 255 → wrap64 ((w.length : Int) + k) = (w.length : Int) + k := fun _ => Al.wrap_sm (by omega) (by omega)
      by_cases hm : 255 < w.length + k
      · refine Ev.bind (encode_many w k h0 (by omega) (by omega) (by omega) hm) ?_
        have hj : Ev (fun f => footlockerlaw04_SystematicWords.j2 f (bs w) there n k i [] 3 true) true :=
          Ev.step (fun k => footlockerlaw04_SystematicWords.j2.eq_2 _ _ _ _ _ _ _ _ _) (Ev.pos rfl (Ev.pos rfl (Ev.neg (by simp) h3)))
        rw [bs_length]
        refine Ev.neg (by omega) ?_
        rw [decide_eq_false hk0]
        refine Ev.step (fun k => footlockerlaw04_SystematicWords.j1.eq_2 _ _ _ _ _ _ _ _ _) (Ev.neg (by simp) ?_)
        by_cases h255 : k > 255
        · exact Ev.pos h255 hj
        · refine Ev.neg h255 ?_
          rw [bs_length, hw1 (by omega), decide_eq_true (by omega)]
          exact hj
      · obtain ⟨k, rfl⟩ : ∃ m : Nat, k = (m : Int) := ⟨k.toNat, by omega⟩
        refine Ev.bind (encode_ev w k (by omega) (by omega)) ?_
        rw [bs_length]
        refine Ev.neg (by omega) ?_
        rw [decide_eq_false hk0]
        refine Ev.step (fun k => footlockerlaw04_SystematicWords.j1.eq_2 _ _ _ _ _ _ _ _ _) (Ev.neg (by simp) (Ev.neg (by omega) ?_))
        rw [bs_length, hw1 (by omega), decide_eq_false (by omega)]
        refine Ev.step (fun k => footlockerlaw04_SystematicWords.j2.eq_2 _ _ _ _ _ _ _ _ _) (Ev.neg (by simp) ?_)
        by_cases h24 : (k : Int) ≤ 24
        · refine Ev.pos h24 (Ev.pos rfl ?_)
          rw [copy_some _ (by rw [bs_length]; omega)]
          refine Ev.somef (Ev.pos (by rw [bs_length, bs_length, more_length]; omega) (Ev.bind (of_ev w k (by omega) (by omega)) ?_))
          refine Ev.bind (same_true (by rw [← bs_append, word_eq w k (by omega)]) (by rw [List.length_append, bs_length, bs_length, more_length]; omega)) (Ev.pos rfl h3)
        · exact Ev.neg h24 h3
  by_cases c3 : k > 24
  · refine Ev.pos c3 ?_
    by_cases c4 : k < 231
    · rw [decide_eq_true c4]
      exact big
    · rw [decide_eq_false c4]
      exact small (.inr (by omega))
  · exact Ev.neg c3 (small (.inl (by omega)))
end Go.Proofs.Ytmdiggcefmkciaa.Pure
