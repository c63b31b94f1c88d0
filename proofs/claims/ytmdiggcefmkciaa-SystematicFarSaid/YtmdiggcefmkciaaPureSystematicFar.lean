/- Two unlike codewords differ at more than k places; sums of codewords are codewords; no further conditions. -/
import Derived.Test.YtmdiggcefmkciaaL04
import Derived.Test.YtmdiggcefmkciaaPx11
namespace Go.Proofs.Ytmdiggcefmkciaa.Pure
open Go Go.RowKit Go.Proofs.YtmdiggcefmkciaaW.PrintWords Go.Proofs.YtmdiggcefmkciaaW.PrintMore Go.Proofs.Ytmdiggcefmkciaa.P Go.Proofs.Ytmdiggcefmkciaa.Al
set_option linter.unusedVariables false
set_option linter.unusedSimpArgs false

/-- at how many places two rows differ, and at which they don't -/
def differ (x y : List G) : Nat → Nat
  | 0 => 0
  | i + 1 => differ x y i + if co x i = co y i then 0 else 1
def alike (x y : List G) : Nat → List Nat
  | 0 => []
  | i + 1 => if co x i = co y i then alike x y i ++ [i] else alike x y i
theorem alike_length (x y : List G) (m : Nat) : (alike x y m).length + differ x y m = m := by
  induction m with
  | zero => rfl
  | succ m ih =>
    simp only [alike, differ]
    split
    · rw [List.length_append, List.length_singleton]; omega
    · omega
theorem alike_mem {x y : List G} : ∀ {m i : Nat}, i ∈ alike x y m → i < m ∧ co x i = co y i := by
  intro m
  induction m with
  | zero => intro i h; simp [alike] at h
  | succ m ih =>
    intro i h
    simp only [alike] at h
    split at h
    · rename_i hc
      rw [List.mem_append] at h
      rcases h with h | h
      · have := ih h
        exact ⟨by omega, this.2⟩
      · simp at h
        subst h
        exact ⟨by omega, hc⟩
    · have := ih h
      exact ⟨by omega, this.2⟩
theorem alike_sorted (x y : List G) (m : Nat) : (alike x y m).Pairwise (· < ·) := by
  induction m with
  | zero => exact List.Pairwise.nil
  | succ m ih =>
    simp only [alike]
    split
    · rw [List.pairwise_append]
      refine ⟨ih, List.pairwise_singleton _ _, fun a ha b hb => ?_⟩
      simp at hb
      subst hb
      exact (alike_mem ha).1
    · exact ih
theorem differ_le (x y : List G) (m : Nat) : differ x y m ≤ m := by have := alike_length x y m; omega
/-- Two codewords that agree at n places are one. -/
theorem far {a b : List G} {k : Nat} (hab : a.length = b.length) (hl : a.length + k ≤ 255) (h : differ (word a k) (word b k) (a.length + k) ≤ k) : a = b := by
  have hal := alike_length (word a k) (word b k) (a.length + k)
  have hg := (gen_facts (d := a) (by omega)).1
  have hg' := (gen_facts (d := b) (by omega)).1
  have hnd : ((alike (word a k) (word b k) (a.length + k)).map pl).Nodup := by
    rw [List.Nodup, List.pairwise_map]
    exact (alike_sorted _ _ _).imp_of_mem (fun {i j} hi hj hij => pl_ne hij (by have := (alike_mem hj).1; omega))
  have hsame := same_of_values (p := gen a) (q := gen b) hnd (by rw [List.length_map]; omega) (by rw [List.length_map]; omega) (fun x hx => by
    rw [List.mem_map] at hx
    obtain ⟨i, hi, rfl⟩ := hx
    obtain ⟨h1, h2⟩ := alike_mem hi
    rwa [word, word, co_vals h1, co_vals (by omega)] at h2)
  apply ext_co hab
  intro i hi
  rw [← (gen_facts (d := a) (by omega)).2.2 i hi, ← (gen_facts (d := b) (by omega)).2.2 i (by omega)]
  exact ev_congr hsame _
theorem sum_isWord {a b : List G} {k : Nat} (hab : a.length = b.length) (hl : a.length + k ≤ 255) : IsWord (tab (a.length + k) (fun i => co (word a k) i + co (word b k) i)) a.length := by
  have hg := (gen_facts (d := a) (by omega)).1
  have hg' := (gen_facts (d := b) (by omega)).1
  refine ⟨zadd (gen a) (gen b), by rw [zadd_length]; omega, fun j hj => ?_⟩
  rw [tab_length] at hj
  rw [co_tab, if_pos hj, ev_zadd, word, word, co_vals hj, co_vals (by omega)]
theorem far_l0 (a b : List G) (k : Nat) (h0 : 0 < a.length) (hab : a.length = b.length) (hl : a.length + k ≤ 24) (e : Nat) : ∀ n : Nat, n + e = a.length + k →
    Ev (fun f => footlockerlaw04_SystematicFar.l0 f (bs a) (bs b) (k : Int) (a.length : Int) (bs (word a k)) (bs (word b k)) (differ (word a k) (word b k) n : Int) (bs (tab n (fun i => co (word a k) i + co (word b k) i))) ((a.length + k : Nat) : Int) (n : Int)) true := by
  have hwa := word_length a k
  have hwb := word_length b k
  induction e with
  | zero =>
    intro n hn
    obtain rfl : n = a.length + k := by omega
    refine Ev.step (fun k => footlockerlaw04_SystematicFar.l0.eq_2 _ _ _ _ _ _ _ _ _ _ _) (Ev.neg (by omega) (Ev.bind (same_ev _ _ (by rw [bs_length]; omega)) ?_))
    have hS := sum_isWord (a := a) (b := b) (k := k) hab (by omega)
    have his := is_true _ a.length (by omega) (by rw [tab_length]; omega) (by rw [tab_length]; omega) hS
    by_cases e : a = b
    · refine Ev.pos (decide_eq_true (by rw [e])) (Ev.bind his (Ev.now _))
    · refine Ev.neg (by rw [decide_eq_true_iff, bs_inj]; exact e) (Ev.pos ?_ (Ev.bind his (Ev.now _)))
      have : ¬ differ (word a k) (word b k) (a.length + k) ≤ k := fun h => e (far hab (by omega) h)
      omega
  | succ e ih =>
    intro n hn
    have h := ih (n + 1) (by omega)
    have hdl := differ_le (word a k) (word b k) n
    refine Ev.step (fun k => footlockerlaw04_SystematicFar.l0.eq_2 _ _ _ _ _ _ _ _ _ _ _) (Ev.pos (by omega) (Ev.pos (by omega) (Ev.pos (by rw [bs_length]; omega) (Ev.pos (by rw [bs_length]; omega) ?_))))
    rw [rd_bs, rd_bs, xor_i, tab_bs n (fun i => co (word a k) i + co (word b k) i), wrap_succ (by omega)]
    by_cases c : co (word a k) n = co (word b k) n
    · refine Ev.pos (by rw [c]) (Ev.pos (by rw [bs_length, tab_length]; omega) ?_)
      simp only [differ, if_pos c, Nat.add_zero] at h
      exact h
    · refine Ev.neg (by rw [i_inj]; exact c) (Ev.pos (by rw [bs_length, tab_length]; omega) ?_)
      rw [wrap_succ (by omega)]
      simp only [differ, if_neg c] at h
      exact h
theorem SystematicFar : footlockerlaw04_SystematicFar.Pure := by
  intro l0 l1 a2 _ _ h0 _ _ h1 h2
  obtain ⟨a, rfl⟩ := bytes_in h0
  obtain ⟨b, rfl⟩ := bytes_in h1
  have ha := wf_i64 h2
  apply Ev.rounds
  refine Ev.congr (fun k => footlockerlaw04_SystematicFar.f.eq_1 _ _ _ _) (Ev.bind alive_ev (Ev.pos rfl ?_))
  have big : Ev (fun k => footlockerlaw04_SystematicFar.j0 k (bs a) (bs b) a2 (a.length : Int) true) true :=
    Ev.step (fun k => footlockerlaw04_SystematicFar.j0.eq_2 _ _ _ _ _ _) (Ev.pos rfl (Ev.now _))
  rw [bs_length, bs_length]
  by_cases c1 : (a.length : Int) = 0
  · exact Ev.pos c1 big
  refine Ev.neg c1 ?_
  by_cases c2 : (a.length : Int) > 12
  · exact Ev.pos c2 big
  refine Ev.neg c2 ?_
  by_cases c3 : (b.length : Int) = (a.length : Int)
  · refine Ev.pos c3 ?_
    by_cases c4 : a2 < 0
    · exact Ev.pos c4 big
    refine Ev.neg c4 ?_
    by_cases c5 : a2 > 12
    · rw [decide_eq_true c5]
      exact big
    rw [decide_eq_false c5]
    obtain ⟨k, rfl⟩ : ∃ k : Nat, a2 = (k : Int) := ⟨a2.toNat, by omega⟩
    have hw : wrap64 ((a.length : Int) + (k : Int)) = ((a.length + k : Nat) : Int) := by rw [Al.wrap_sm (by omega) (by omega)]; omega
    refine Ev.step (fun k => footlockerlaw04_SystematicFar.j0.eq_2 _ _ _ _ _ _) (Ev.neg (by simp) (Ev.bind (encode_ev a k (by omega) (by omega)) (Ev.bind (encode_ev b k (by omega) (by omega)) ?_)))
    rw [copy_some _ (by rw [bs_length]; omega)]
    refine Ev.somef (Ev.pos (by dsimp only; rw [bs_length, bs_length, more_length]; omega) (Ev.somef ?_))
    rw [copy_some _ (by rw [bs_length]; omega)]
    refine Ev.somef (Ev.pos (by dsimp only; rw [bs_length, bs_length, more_length]; omega) (Ev.somef ?_))
    dsimp only
    rw [← bs_append, ← bs_append, word_eq a k (by omega), word_eq b k (by omega), hw]
    refine Ev.pos (by rw [bs_length, word_length]) ?_
    rw [show (((bs (word b k)).length : Int) != ((a.length + k : Nat) : Int)) = false by
      rw [bs_length, word_length, show b.length = a.length by omega]; exact bne_self_eq_false _]
    refine Ev.step (fun k => footlockerlaw04_SystematicFar.j1.eq_2 _ _ _ _ _ _ _ _) (Ev.neg (by simp) ?_)
    rw [bs_length, word_length]
    exact far_l0 a b k (by omega) (by omega) (by omega) (a.length + k) 0 (by omega)
  · exact Ev.neg c3 big
end Go.Proofs.Ytmdiggcefmkciaa.Pure
