/- The document's helpers; bytes that are handed in; masks. Conditions: as each theorem states them. -/
import Derived.Test.YtanknpdibjfmlaaB1
import Derived.Test.YtanknpdibjfmlaaPx7
import Derived.Test.YtanknpdibjfmlaaPx9
namespace Go.Proofs.Ytanknpdibjfmlaa.Al
open Go Go.RowKit Go.Proofs.YtanknpdibjfmlaaW.PrintWords Go.Proofs.YtanknpdibjfmlaaW.PrintMore Go.Proofs.Ytanknpdibjfmlaa.P
set_option linter.unusedVariables false
set_option linter.unusedSimpArgs false

/-! Same, Copy, Inv -/
theorem rd_drop {l : List Int} {n : Nat} (h : n < l.length) : l.drop n = rd l (n : Int) :: l.drop (n + 1) := by
  rw [List.drop_eq_getElem_cons h]
  simp [rd, List.getD_eq_getElem?_getD, List.getElem?_eq_getElem h]
theorem same_l0 (a b : List Int) (hl : a.length = b.length) (ha : a.length < 1000000000000) (d : Nat) : ∀ n : Nat, n + d = a.length → Ev (fun k => footlockerref01_Same.l0 k a b (n : Int)) (decide (a.drop n = b.drop n)) := by
  induction d with
  | zero =>
    intro n hn
    refine Ev.step (fun k => footlockerref01_Same.l0.eq_2 _ _ _ _) (Ev.neg (by omega) ?_)
    rw [List.drop_of_length_le (by omega), List.drop_of_length_le (by omega)]
    exact Ev.now _
  | succ d ih =>
    intro n hn
    refine Ev.step (fun k => footlockerref01_Same.l0.eq_2 _ _ _ _) (Ev.pos (by omega) (Ev.pos (by omega) (Ev.pos (by omega) ?_)))
    rw [rd_drop (show n < a.length by omega), rd_drop (show n < b.length by omega)]
    by_cases e : rd a (n : Int) = rd b (n : Int)
    · refine Ev.pos e ?_
      rw [wrap_succ (by omega)]
      refine evc (ih (n + 1) (by omega)) ?_
      rw [e]
      simp
    · refine Ev.neg e ?_
      rw [decide_eq_false (by intro h; exact e (List.cons.inj h).1)]
      exact Ev.now _
theorem same_ev (a b : List Int) (ha : a.length < 1000000000000) : Ev (fun k => footlockerref01_Same.f k a b) (decide (a = b)) := by
  refine Ev.congr (fun k => footlockerref01_Same.f.eq_1 _ _ _) ?_
  by_cases hl : a.length = b.length
  · refine Ev.pos (by omega) ?_
    have := same_l0 a b hl ha a.length 0 (by omega)
    rw [List.drop_zero, List.drop_zero] at this
    exact this
  · refine Ev.neg (by omega) ?_
    rw [decide_eq_false (by rintro rfl; exact hl rfl)]
    exact Ev.now _
theorem copy_some (l : List Int) (h : l.length < 1000000000000) : footlockerref01_Copy.f l = some l := by
  unfold footlockerref01_Copy.f
  simp only [Option.bind_some, List.length_nil, List.nil_append]
  rw [if_pos (by omega)]
theorem refinv_l0 (a : G) (d : Nat) : ∀ n : Nat, n + d = 256 → 1 ≤ n → (∀ b : G, a * b = 1 → (n : Int) ≤ b.i) → Ev (fun k => footlockerref01_Inv.l0 k a.i (n : Int)) (inv a).i := by
  induction d with
  | zero =>
    intro n hn _ h
    refine Ev.step (fun k => footlockerref01_Inv.l0.eq_2 _ _ _) (Ev.neg (by omega) ?_)
    have ha : a = 0 := by
      apply Classical.byContradiction
      intro hne
      have := h _ (mul_inv hne)
      have := i_lt (inv a)
      omega
    rw [ha, inv_zero]
    exact Ev.now _
  | succ d ih =>
    intro n hn h1 h
    refine Ev.step (fun k => footlockerref01_Inv.l0.eq_2 _ _ _) (Ev.pos (by omega) ?_)
    have e : (n : Int) % 256 = (G.of (n : Int)).i := by rw [i_of (by omega) (by omega)]; omega
    rw [e]
    refine Ev.bind (refmul_ev _ _) ?_
    by_cases hm : a * G.of (n : Int) = 1
    · refine Ev.pos (by rw [hm]; rfl) ?_
      rw [inv_unique hm]
      exact Ev.now _
    · refine Ev.neg (by rw [← i_one, i_inj]; exact hm) ?_
      rw [wrap_succ (by omega)]
      refine ih (n + 1) (by omega) (by omega) (fun b hb => ?_)
      have := h b hb
      rcases Int.lt_or_eq_of_le this with h2 | h2
      · omega
      · exfalso
        apply hm
        rw [h2, of_i]
        exact hb
theorem refinv_ev (a : G) : Ev (fun k => footlockerref01_Inv.f k a.i) (inv a).i := by
  refine Ev.congr (fun k => footlockerref01_Inv.f.eq_1 _ _) ?_
  refine refinv_l0 a 255 1 rfl (by omega) (fun b hb => ?_)
  have := i_nonneg b
  rcases Int.lt_or_eq_of_le this with h | h
  · omega
  · exfalso
    have : b = 0 := i_eq_zero.1 h.symm
    rw [this, mul_zero] at hb
    exact one_ne_zero hb.symm

theorem wf_u8 {x : Int} (h : (Lit.int .u8 x).wf = true) : 0 ≤ x ∧ x < 256 := by
  simp [Lit.wf, IntKind.min, IntKind.max, IntKind.bits, IntKind.signed] at h
  omega
theorem wf_i64 {x : Int} (h : (Lit.int .i64 x).wf = true) : -9223372036854775808 ≤ x ∧ x ≤ 9223372036854775807 := by
  simp [Lit.wf, IntKind.min, IntKind.max, IntKind.bits, IntKind.signed] at h
  omega
theorem bytes_in {l : List Int} (h : ∀ x ∈ l, (Lit.int .u8 x).wf = true) : ∃ p, l = bs p := of_bytes l (fun x hx => wf_u8 (h x hx))
theorem byte_in {x : Int} (h : (Lit.int .u8 x).wf = true) : ∃ a : G, x = a.i := ⟨G.of x, (i_of (wf_u8 h).1 (wf_u8 h).2).symm⟩
theorem same_true {a b : List Int} (h : a = b) (ha : a.length < 1000000000000) : Ev (fun k => footlockerref01_Same.f k a b) true := by
  have := same_ev a b ha
  rwa [decide_eq_true h] at this
theorem and_le (x : Int) (m : Nat) (hm : m < 1000000) : ∃ c : Nat, c ≤ m ∧ Go.bits .and .i64 x (m : Int) = (c : Int) := by
  have hmm : (BitVec.ofInt 64 (m : Int)).toNat = m := by
    rw [BitVec.ofInt_natCast, BitVec.toNat_ofNat]
    omega
  have h : (BitVec.ofInt 64 x &&& BitVec.ofInt 64 (m : Int)).toNat ≤ m := by
    rw [BitVec.toNat_and, hmm]
    exact Nat.and_le_right
  refine ⟨(BitVec.ofInt 64 x &&& BitVec.ofInt 64 (m : Int)).toNat, h, ?_⟩
  show IntKind.i64.wrap _ = _
  rw [IntKind.wrap_i64]
  show (((BitVec.ofInt 64 x &&& BitVec.ofInt 64 (m : Int)).toNat : Int) + _) % _ - _ = _
  omega
end Go.Proofs.Ytanknpdibjfmlaa.Al
