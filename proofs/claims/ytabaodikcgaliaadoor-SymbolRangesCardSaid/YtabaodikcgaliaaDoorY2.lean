/- The ranges of the codes; the example. Conditions: as each theorem states them. -/
import Derived.Test.YtabaodikcgaliaaDoorY1
import Derived.Test.YtabaodikcgaliaaDoorPx1
import Derived.Test.YtabaodikcgaliaaDoorPx3
namespace Go.Proofs.YtabaodikcgaliaaDoor.Sy
open Go Go.RowKit Go.Proofs.YtabaodikcgaliaaDoorW.PrintWords Go.Proofs.YtabaodikcgaliaaDoorW.PrintMore Go.Proofs.YtabaodikcgaliaaDoor.P
set_option linter.unusedVariables false
set_option linter.unusedSimpArgs false

theorem alive_ev : Ev (fun k => footlockerlaw11_alive.f k) true :=
  Ev.of (fun k => footlockerlaw11_alive.mono k) (k := 60) (by decide +kernel)
theorem held_ev (a lo hi : Int) (h : lo ≤ hi) : ∃ x, footlockerref01_Held.f a lo hi = some x ∧ lo ≤ x ∧ x ≤ hi := by
  unfold footlockerref01_Held.f
  by_cases c : a > hi
  · rw [if_pos c, if_neg (by omega)]
    exact ⟨hi, rfl, h, Int.le_refl _⟩
  · rw [if_neg c]
    by_cases d : a < lo
    · rw [if_pos d]; exact ⟨lo, rfl, Int.le_refl _, h⟩
    · rw [if_neg d]; exact ⟨a, rfl, by omega, by omega⟩
theorem d_sh : ∀ c : Nat, c < 30 → 1 ≤ shl .i64 1 (rd symDistBits (c : Int)) ∧ 0 ≤ rd symDistBits (c : Int) ∧ rd symDist (c : Int) + shl .i64 1 (rd symDistBits (c : Int)) ≤ 32769 ∧
    ∀ j : Nat, c < j → j < 30 → rd symDist (c : Int) + shl .i64 1 (rd symDistBits (c : Int)) ≤ rd symDist (j : Int) := by
  have h : ∀ c : Fin 30, (1 ≤ shl .i64 1 (rd symDistBits (c.val : Int)) ∧ 0 ≤ rd symDistBits (c.val : Int) ∧ rd symDist (c.val : Int) + shl .i64 1 (rd symDistBits (c.val : Int)) ≤ 32769) ∧
    ∀ j : Fin 30, c.val < j.val → rd symDist (c.val : Int) + shl .i64 1 (rd symDistBits (c.val : Int)) ≤ rd symDist (j.val : Int) := by decide +kernel
  intro c hc
  obtain ⟨⟨h1, h2, h3⟩, h4⟩ := h ⟨c, hc⟩
  exact ⟨h1, h2, h3, fun j hj hj' => h4 ⟨j, hj'⟩ hj⟩
theorem l_sh : ∀ c : Nat, c < 29 → 1 ≤ shl .i64 1 (rd symLenBits (c : Int)) ∧ 0 ≤ rd symLenBits (c : Int) ∧ rd symLen (c : Int) + shl .i64 1 (rd symLenBits (c : Int)) ≤ 259 ∧
    ∀ j : Nat, c < j → j < 29 → rd symLen (c : Int) + shl .i64 1 (rd symLenBits (c : Int)) ≤ rd symLen (j : Int) ∨ rd symLen (j : Int) = 258 := by
  have h : ∀ c : Fin 29, (1 ≤ shl .i64 1 (rd symLenBits (c.val : Int)) ∧ 0 ≤ rd symLenBits (c.val : Int) ∧ rd symLen (c.val : Int) + shl .i64 1 (rd symLenBits (c.val : Int)) ≤ 259) ∧
    ∀ j : Fin 29, c.val < j.val → (rd symLen (c.val : Int) + shl .i64 1 (rd symLenBits (c.val : Int)) ≤ rd symLen (j.val : Int) ∨ rd symLen (j.val : Int) = 258) := by decide +kernel
  intro c hc
  obtain ⟨⟨h1, h2, h3⟩, h4⟩ := h ⟨c, hc⟩
  exact ⟨h1, h2, h3, fun j hj hj' => h4 ⟨j, hj'⟩ hj⟩
/-- Within its range a number has its code. -/
theorem d_in {c : Nat} {n : Int} (hc : c < 30) (h0 : rd symDist (c : Int) ≤ n) (h1 : n < rd symDist (c : Int) + shl .i64 1 (rd symDistBits (c : Int))) : At symDist n c :=
  ⟨by rw [d_len]; exact hc, h0, fun j hj hj' => by have := (d_sh c hc).2.2.2 j hj (by rw [d_len] at hj'; exact hj'); omega⟩
theorem l_in {c : Nat} {n : Int} (hc : c < 29) (h0 : rd symLen (c : Int) ≤ n) (h1 : n < rd symLen (c : Int) + shl .i64 1 (rd symLenBits (c : Int))) (h2 : n < 258) : At symLen n c :=
  ⟨by rw [l_len]; exact hc, h0, fun j hj hj' => by rcases (l_sh c hc).2.2.2 j hj (by rw [l_len] at hj'; exact hj') with h | h <;> omega⟩
theorem l_258 : At symLen 258 28 := ⟨by decide, by decide, fun j hj hj' => by rw [l_len] at hj'; omega⟩
theorem At.uniq {l : List Int} {x : Int} {t s : Nat} (h : At l x t) (g : At l x s) : t = s := by
  have h1 : ¬ t < s := fun c => by have := h.behind s c g.lt; have := g.le; omega
  have h2 : ¬ s < t := fun c => by have := g.behind t c h.lt; have := h.le; omega
  omega
/-- A number is no further behind its base than its bits tell. -/
theorem d_fit {n : Int} {t : Nat} (h1 : n ≤ 32768) (h : At symDist n t) : n - rd symDist (t : Int) < shl .i64 1 (rd symDistBits (t : Int)) := by
  have e : ∀ c : Fin 30, (c.val < 29 → rd symDist ((c.val + 1 : Nat) : Int) = rd symDist (c.val : Int) + shl .i64 1 (rd symDistBits (c.val : Int))) ∧ (c.val = 29 → rd symDist (c.val : Int) + shl .i64 1 (rd symDistBits (c.val : Int)) = 32769) := by decide +kernel
  have ht := h.lt
  rw [d_len] at ht
  obtain ⟨e1, e2⟩ := e ⟨t, ht⟩
  by_cases c : t < 29
  · have := e1 c
    have := h.behind (t + 1) (by omega) (by rw [d_len]; omega)
    simp only at *
    omega
  · have := e2 (by show t = 29; omega)
    simp only at *
    omega
theorem l_fit {n : Int} {t : Nat} (h1 : n ≤ 258) (h : At symLen n t) : n - rd symLen (t : Int) < shl .i64 1 (rd symLenBits (t : Int)) := by
  have e : ∀ c : Fin 29, (c.val < 27 → rd symLen ((c.val + 1 : Nat) : Int) = rd symLen (c.val : Int) + shl .i64 1 (rd symLenBits (c.val : Int))) ∧ (27 ≤ c.val → rd symLen (c.val : Int) + shl .i64 1 (rd symLenBits (c.val : Int)) = 259) := by decide +kernel
  have ht := h.lt
  rw [l_len] at ht
  obtain ⟨e1, e2⟩ := e ⟨t, ht⟩
  by_cases c : t < 27
  · have := e1 c
    have := h.behind (t + 1) (by omega) (by rw [l_len]; omega)
    simp only at *
    omega
  · have := e2 (by show 27 ≤ t; omega)
    simp only at *
    omega
/-- One more is one code further at most. -/
theorem next_at {l : List Int} (hs : ∀ i j : Nat, i < j → j < l.length → rd l (i : Int) < rd l (j : Int)) {n m : Int} {t s : Nat} (h : At l n t) (g : At l m s) (h0 : n ≤ m) (h1 : m ≤ n + 1) : t ≤ s ∧ s ≤ t + 1 := by
  constructor
  · apply Nat.le_of_not_lt
    intro c
    have := g.behind t c h.lt
    have := h.le
    omega
  · apply Nat.le_of_not_lt
    intro c
    have a := h.behind (t + 1) (by omega) (by have := g.lt; omega)
    have b := hs (t + 1) s c g.lt
    have := g.le
    omega
theorem less_at {l : List Int} {n : Int} {t c : Nat} (hs : ∀ i j : Nat, i < j → j < l.length → rd l (i : Int) < rd l (j : Int)) (h : At l n t) (hc : n < rd l (c : Int)) : t < c := by
  apply Nat.lt_of_not_le
  intro d
  by_cases e : c = t
  · subst e; have := h.le; omega
  · have := hs c t (by omega) h.lt
    have := h.le
    omega
theorem tmod_in (x s : Int) (h0 : 0 ≤ x) (hs : 1 ≤ s) : 0 ≤ Int.tmod x s ∧ Int.tmod x s < s := by
  rw [IntWalk.rem_in _ _ h0]
  exact ⟨Int.emod_nonneg _ (by omega), Int.emod_lt_of_pos _ (by omega)⟩
end Go.Proofs.YtabaodikcgaliaaDoor.Sy
