/- What a copy into a row of the call's own leaves there: as many numbers as the shorter of the two has. Conditions: as each theorem states them. -/
import Derived.Laws.CopyOwn
import Derived.Test.YtanknpdibjfmlaaWMore
namespace Go.Proofs.Ytanknpdibjfmlaa.Q
open Go Go.RowKit Go.Proofs.YtanknpdibjfmlaaW.PrintWords
set_option linter.unusedVariables false
set_option linter.unusedSimpArgs false

theorem R_copy_ints {P : Program} {ops : Array Oper} {rest : List Oper} {o : Oper} {a : Act} {Q : Exit → Act → World → Prop} (k : IntKind) {w0 W : World} (base : Nat) (hgd : o.guard = none) (s x : Operand) (t e : TypeId)
    (ho : o.op = .call { callee := .builtin .copy, args := #[s, x], argTypes := #[t, t] }) (ht : P.underlying t = some (.slice e)) (hsz : (P.info? e).map (·.size) = some 1)
    (v : Value) (xs ys : List Int) (A : Option Addr) (m c : Nat) (ok : Nat → Prop) (hs : a.eval s = v) (hx : a.eval x = .slice A m c)
    (HO : (Kd.int k).R e W base ok v xs) (HR : (Kd.int k).C W A m ys) (HB : Below base w0 W)
    (h : ∀ W1, (Kd.int k).R e W1 base ok v (ys.take xs.length ++ xs.drop ys.length) → Below base w0 W1 → wpList P ops Q rest (a.put o.dst (goInt (Nat.min m xs.length))) W1) :
    wpList P ops Q (o :: rest) a W := by
  have hm : ys.length = m := HR.1
  have hown := Kd.own_of_R HO
  have hok := HO.1
  obtain ⟨hl, hd⟩ := hown
  by_cases h0 : Nat.min m xs.length = 0
  · have hz : ys.take xs.length ++ xs.drop ys.length = xs := by
      rcases Nat.eq_zero_or_pos m with hm0 | hm0
      · obtain rfl : ys = [] := List.eq_nil_of_length_eq_zero (by omega)
        simp
      · obtain rfl : xs = [] := List.eq_nil_of_length_eq_zero (by
          have : min m xs.length = 0 := h0
          omega)
        simp
    rw [hz, h0] at h
    rcases hd with ⟨hv, hn⟩ | ⟨g, cap, cur, hv, hg, hh, hnc, hcm, hcs, htake⟩
    · exact wpList_copy_nothing hgd s x t t ho e ht hsz none A 0 0 m c (hs.trans hv) hx (Nat.min_zero m) (h W HO HB)
    · exact wpList_copy_nothing hgd s x t t ho e ht hsz _ A xs.length cap m c (hs.trans hv) hx h0 (h W HO HB)
  · have hmin : min m xs.length ≠ 0 := h0
    have hmin' : Nat.min m xs.length = min m xs.length := rfl
    rcases hd with ⟨hv, hn⟩ | ⟨g, cap, cur, hv, hg, hh, hnc, hcm, hcs, htake⟩
    · omega
    · obtain ⟨ad, rfl, hcell⟩ := HR.2.2 (by omega)
      have hrow := Kd.reads_of_C (enc := Value.int k) (d := (0 : Int)) (h1 := fun _ => rfl) HR
      have hxl : (encs (Value.int k) xs).length = xs.length := by simp [encs]
      have hcl : cur.size = cap := by omega
      refine wpList_copy_own hgd s x t t ho e ht hsz g 0 xs.length cap ad m c (hs.trans hv) hx cur e hh (encs (Value.int k) (ys.take xs.length)) ?_ ?_ ?_ ?_ ?_
      · simp only [encs, List.length_map, List.length_take, hmin']
        omega
      · intro j u hj
        have hjl : j < (ys.take xs.length).length := by
          have := (List.getElem?_eq_some_iff.1 hj).1
          simpa [encs] using this
        simp only [List.length_take] at hjl
        obtain ⟨ad', e', hr⟩ := hrow.2.2 (by omega)
        cases e'
        have := hr j (by omega)
        rw [this]
        simp only [encs, List.getElem?_map, List.getElem?_take, if_pos (show j < xs.length by omega)] at hj
        rw [List.getElem?_eq_getElem (show j < ys.length by omega)] at hj
        rw [← hj]
        simp [List.getD_eq_getElem?_getD, List.getElem?_eq_getElem (show j < ys.length by omega)]
      · simp only [encs, List.length_map, List.length_take]
        omega
      · intro u hu
        simp only [encs, List.mem_map] at hu
        obtain ⟨z, _, rfl⟩ := hu
        rfl
      · have hcount : (encs (Value.int k) (ys.take xs.length)).length = Nat.min m xs.length := by
          simp only [encs, List.length_map, List.length_take, hmin']
          omega
        rw [hcount]
        refine h _ (Kd.R_of_own ?_ hok) (below_setRow HB hg _)
        have hlen : (ys.take xs.length ++ xs.drop ys.length).length = xs.length := by
          simp only [List.length_append, List.length_take, List.length_drop]
          omega
        rw [hlen]
        have hc2 : cur.toList.length = cap := by rw [Array.length_toList]; omega
        refine ⟨by simp only [encs, List.length_map]; omega, .inr ⟨g, cap, _, hv, hg, setRow_heap W g cur _ e _ hh, hnc, hcm, ?_, ?_⟩⟩
        · simp only [List.size_toArray, List.length_append, List.length_take, List.length_drop, encs, List.length_map, hc2]
          have : Nat.min m xs.length = min m xs.length := rfl
          omega
        · rw [Nat.mul_one] at htake ⊢
          simp only [List.take_zero, List.nil_append, Nat.zero_add]
          have hk1 : Nat.min m xs.length = min m xs.length := rfl
          rw [hk1]
          have e1 : encs (Value.int k) (ys.take xs.length ++ xs.drop ys.length) = encs (Value.int k) (ys.take xs.length) ++ encs (Value.int k) (xs.drop ys.length) := by simp [encs]
          rw [e1]
          have e2 : encs (Value.int k) (xs.drop ys.length) = (cur.toList.take xs.length).drop ys.length := by rw [htake]; simp [encs]
          rw [e2]
          rw [List.take_append]
          have hc3 : (encs (Value.int k) (ys.take xs.length)).length = min m xs.length := by
            simp only [encs, List.length_map, List.length_take]
            omega
          rw [hc3, List.take_of_length_le (by omega)]
          congr 1
          rw [List.take_drop]
          rcases Nat.le_total m xs.length with hle | hle
          · rw [show min m xs.length = m by omega, hm]
            congr 2
            omega
          · rw [show min m xs.length = xs.length by omega, Nat.sub_self, Nat.add_zero]
            rw [List.drop_of_length_le (by simp; omega), List.drop_of_length_le (by simp; omega)]
end Go.Proofs.Ytanknpdibjfmlaa.Q
