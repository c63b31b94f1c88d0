/- Headers: what is written. Conditions: as each theorem states them. -/
import Derived.Test.YtdbaglogmdkbpaaDoorK2
namespace Go.Proofs.YtdbaglogmdkbpaaDoor.Vm
open Go Go.RowKit
set_option linter.unusedVariables false
set_option linter.unusedSimpArgs false
set_option maxRecDepth 10000
@[reducible] def Hdr : Type := Int × Stm × Int × Int × Int × ByteArray × Unit
def grt (h : Hdr) : Prop := 4294967295 ≤ h.2.2.2.1 ∨ 4294967295 ≤ h.2.2.2.2.1
instance (h : Hdr) : Decidable (grt h) := by unfold grt; infer_instance
theorem great_is (n : Nat) (x : Hdr × Unit) : local_great.f n x = some (decide (grt x.1), ()) := by
  obtain ⟨h, u⟩ := x
  refine (local_great.eq n h).trans ?_
  unfold grt
  by_cases h1 : 4294967295 ≤ h.2.2.2.1
  · rw [if_pos (by simpa using h1)]; simp [h1]
  · rw [if_neg (by simpa using h1)]; simp [h1]
def chkV (n : Nat) (h : Hdr) : Int := if h.1 ≠ 0 ∧ h.1 ≠ 8 then 43 else if StOk h.2.1 then nmV n h.2.2.2.2.2.1 else 41
theorem lcheck_is {n : Nat} (hn : 256 ≤ n) (x : Hdr × Unit) : local_check.f n x = some (chkV n x.1, ()) := by
  obtain ⟨h, u⟩ := x
  refine (local_check.eq n h).trans ?_
  simp only [stCheck_is, name_is hn, Option.bind_some]
  unfold chkV stE
  by_cases h1 : h.1 = 0 <;> by_cases h2 : h.1 = 8 <;> by_cases h3 : StOk h.2.1 <;> simp [h1, h2, h3]
theorem chk_zero {n : Nat} {h : Hdr} (hc : chkV n h = 0) : (h.1 = 0 ∨ h.1 = 8) ∧ StOk h.2.1 ∧ nmV n h.2.2.2.2.2.1 = 0 ∧ 0 < h.2.2.2.2.2.1.size ∧ h.2.2.2.2.2.1.size ≤ 255 := by
  unfold chkV at hc
  split at hc
  · exact absurd hc (by decide)
  · rename_i h1
    split at hc
    · rename_i h2
      refine ⟨by omega, h2, hc, ?_⟩
      by_cases h3 : h.2.2.2.2.2.1.size = 0 ∨ 255 < h.2.2.2.2.2.1.size
      · rw [nmV_long h3] at hc; exact absurd hc (by decide)
      · omega
    · exact absurd hc (by decide)
/-- a header's numbers -/
def hdN (h : Hdr) : List (Nat × Int) := if grt h then [(4, 67324752), (2, 45), (2, 2048), (2, h.1), (2, timeN h.2.1), (2, dateN h.2.1), (4, h.2.2.1), (4, 4294967295), (4, 4294967295), (2, (h.2.2.2.2.2.1.size : Int)), (2, 20)]
  else [(4, 67324752), (2, 20), (2, 2048), (2, h.1), (2, timeN h.2.1), (2, dateN h.2.1), (4, h.2.2.1), (4, h.2.2.2.1), (4, h.2.2.2.2.1), (2, (h.2.2.2.2.2.1.size : Int)), (2, 0)]
def mrB (h : Hdr) : List Int := if grt h then les [(2, 1), (2, 16), (8, h.2.2.2.2.1), (8, h.2.2.2.1)] else []
def wB (h : Hdr) : List Int := les (hdN h) ++ (sbytes h.2.2.2.2.2.1 ++ mrB h)
theorem sbytes_by (s : ByteArray) : By (sbytes s) := fun x hx => by
  unfold sbytes at hx
  obtain ⟨b, _, rfl⟩ := List.mem_map.1 hx
  have := b.toNat_lt
  omega
theorem mrB_len (h : Hdr) : (mrB h).length = if grt h then 20 else 0 := by
  unfold mrB; split <;> rfl
theorem hdN_len (h : Hdr) : (les (hdN h)).length = 30 := by unfold hdN; split <;> rfl
theorem wB_len (h : Hdr) : (wB h).length = 30 + h.2.2.2.2.2.1.size + if grt h then 20 else 0 := by
  unfold wB
  rw [List.length_append, List.length_append, hdN_len, mrB_len, sbytes_len]; omega
theorem wB_by (h : Hdr) : By (wB h) := (les_by _).append ((sbytes_by _).append (by unfold mrB; split; exact les_by _; exact By.nil))
/-- the numbers are within their bounds -/
structure HdOk (h : Hdr) : Prop where
  sum : 0 ≤ h.2.2.1 ∧ h.2.2.1 < 4294967296
  pk : 0 ≤ h.2.2.2.1 ∧ h.2.2.2.1 < 18446744073709551616
  sz : 0 ≤ h.2.2.2.2.1 ∧ h.2.2.2.2.1 < 18446744073709551616
theorem lwrite_is {n : Nat} (hn : 1000 ≤ n) (hn' : n ≤ 1000000) (h : Hdr) (hk : HdOk h) : local_Write.f n (h, ()) = some (if chkV n h = 0 then (wB h, 0, ()) else ([], chkV n h, ())) := by
  rw [local_Write.eq, lcheck_is (by omega), Option.bind_some]
  by_cases hc : chkV n h = 0
  · obtain ⟨h1, h2, h3, h4, h5⟩ := chk_zero hc
    have hp : ∀ (x s : Int), 0 ≤ s → s ≤ 8 → little_Put.f n (x, s, ()) = some (le s.toNat x, ()) := fun x s => put_is (by omega) x s
    obtain ⟨p1, p2, p3, p4, _⟩ := h2.nums
    have w1 : wr .u64 h.1 = h.1 := wru64 (by omega) (by omega)
    have w2 : wr .u64 (timeN h.2.1) = timeN h.2.1 := wru64 (by omega) (by omega)
    have w3 : wr .u64 (dateN h.2.1) = dateN h.2.1 := wru64 (by omega) (by omega)
    have w4 : wr .u64 h.2.2.1 = h.2.2.1 := wru64 hk.sum.1 (by have := hk.sum.2; omega)
    have w5 : wr .u64 (h.2.2.2.2.2.1.size : Int) = (h.2.2.2.2.2.1.size : Int) := wru64 (by omega) (by omega)
    rw [if_neg (by simp [hc]), stPack_is, Option.bind_some, if_pos h2, great_is, Option.bind_some, if_pos hc]
    have hl := wB_len h
    by_cases hg : grt h
    · have c1 : slices_Concat_byte_byte.f n ([le 2 1, le 2 16, le 8 h.2.2.2.2.1, le 8 h.2.2.2.1], ()) = some (mrB h, ()) := by
        rw [cat_is (by simp [le_len]) (by simp; omega) (by omega)]
        unfold mrB
        rw [if_pos hg]
        simp [les]
      have c2 : slices_Concat_byte_byte.f n ([le 4 67324752, le 2 45, le 2 2048, le 2 h.1, le 2 (timeN h.2.1), le 2 (dateN h.2.1), le 4 h.2.2.1, le 4 4294967295, le 4 4294967295, le 2 (h.2.2.2.2.2.1.size : Int), le 2 20, sbytes h.2.2.2.2.2.1, mrB h], ()) = some (wB h, ()) := by
        have e : [le 4 67324752, le 2 45, le 2 2048, le 2 h.1, le 2 (timeN h.2.1), le 2 (dateN h.2.1), le 4 h.2.2.1, le 4 4294967295, le 4 4294967295, le 2 (h.2.2.2.2.2.1.size : Int), le 2 20, sbytes h.2.2.2.2.2.1, mrB h].flatten = wB h := by
          unfold wB hdN
          rw [if_pos hg]
          simp [les]
        rw [cat_is (by rw [e, hl]; split <;> omega) (by simp; omega) (by omega), e]
      have hml : ((mrB h).length : Int) = 20 := by rw [mrB_len, if_pos hg]; rfl
      rw [if_pos (by simp [hg])]
      repeat rw [hp _ _ (by decide) (by decide), Option.bind_some]
      show (slices_Concat_byte_byte.f n ([le 2 1, le 2 16, le 8 h.2.2.2.2.1, le 8 h.2.2.2.1], ())).bind _ = _
      rw [c1, Option.bind_some, if_pos (lim_of (by omega))]
      show (little_Put.f n _).bind _ = _
      repeat rw [hp _ _ (by decide) (by decide), Option.bind_some]
      simp only [w1, w2, w3, w4, w5, hml]
      rw [wru64 (x := 20) (by decide) (by decide)]
      show (slices_Concat_byte_byte.f n ([le 4 67324752, le 2 45, le 2 2048, le 2 h.1, le 2 (timeN h.2.1), le 2 (dateN h.2.1), le 4 h.2.2.1, le 4 4294967295, le 4 4294967295, le 2 (h.2.2.2.2.2.1.size : Int), le 2 20, sbytes h.2.2.2.2.2.1, mrB h], ())).bind _ = _
      rw [c2, Option.bind_some]
    · have c2 : slices_Concat_byte_byte.f n ([le 4 67324752, le 2 20, le 2 2048, le 2 h.1, le 2 (timeN h.2.1), le 2 (dateN h.2.1), le 4 h.2.2.1, le 4 h.2.2.2.1, le 4 h.2.2.2.2.1, le 2 (h.2.2.2.2.2.1.size : Int), le 2 0, sbytes h.2.2.2.2.2.1, []], ()) = some (wB h, ()) := by
        have e : [le 4 67324752, le 2 20, le 2 2048, le 2 h.1, le 2 (timeN h.2.1), le 2 (dateN h.2.1), le 4 h.2.2.1, le 4 h.2.2.2.1, le 4 h.2.2.2.2.1, le 2 (h.2.2.2.2.2.1.size : Int), le 2 0, sbytes h.2.2.2.2.2.1, []].flatten = wB h := by
          unfold wB hdN mrB
          rw [if_neg hg, if_neg hg]
          simp [les]
        rw [cat_is (by rw [e, hl]; split <;> omega) (by simp; omega) (by omega), e]
      rw [if_neg (by simp [hg]), if_pos (lim_of (by omega))]
      repeat rw [hp _ _ (by decide) (by decide), Option.bind_some]
      simp only [w1, w2, w3, w4, w5]
      show (slices_Concat_byte_byte.f n ([le 4 67324752, le 2 20, le 2 2048, le 2 h.1, le 2 (timeN h.2.1), le 2 (dateN h.2.1), le 4 h.2.2.1, le 4 h.2.2.2.1, le 4 h.2.2.2.2.1, le 2 (h.2.2.2.2.2.1.size : Int), le 2 0, sbytes h.2.2.2.2.2.1, []], ())).bind _ = _
      rw [c2, Option.bind_some]
  · rw [if_pos (by simp [hc]), if_neg hc]
theorem lsize_is (n : Nat) (h : Hdr) (hs : h.2.2.2.2.2.1.size ≤ 65535) : local_Size.f n (h, ()) = some (30 + (h.2.2.2.2.2.1.size : Int) + (if grt h then 20 else 0), ()) := by
  rw [local_Size.eq, great_is, Option.bind_some]
  by_cases hg : grt h
  · rw [if_pos (by simp [hg]), if_neg (by omega), wr64 (x := 30 + (h.2.2.2.2.2.1.size : Int)) (by omega) (by omega), wr64 (by omega) (by omega), if_pos hg]
  · rw [if_neg (by simp [hg]), if_neg (by omega), wr64 (x := 30 + (h.2.2.2.2.2.1.size : Int)) (by omega) (by omega), if_neg hg, Int.add_zero]
end Go.Proofs.YtdbaglogmdkbpaaDoor.Vm
