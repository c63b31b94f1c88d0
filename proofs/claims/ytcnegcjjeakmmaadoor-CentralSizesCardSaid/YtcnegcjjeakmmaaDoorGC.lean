/- Joined texts of own work. Conditions: as each theorem states them. -/
import Derived.Test.YtcnegcjjeakmmaaDoorGA
import Derived.Lib.DecodeN
import Derived.Lib.IndexLaws
import Derived.Lib.QuoteLoop
import Derived.Test.YtcnegcjjeakmmaaDoorGB
namespace Go.Proofs.YtcnegcjjeakmmaaDoor.Vm
open Go Go.RowKit
set_option linter.unusedVariables false
set_option linter.unusedSimpArgs false
set_option maxRecDepth 10000
/-- a string's byte -/
def bt (s : ByteArray) (i : Nat) : Nat := (s.get! i).toNat
theorem bt_lt (s : ByteArray) (i : Nat) : bt s i < 256 := (s.get! i).toNat_lt
theorem get_bt {s : ByteArray} {i : Nat} (h : i < s.size) : List.getD (sbytes s) i 0 = (bt s i : Int) := by
  have h2 : i < s.data.size := h
  have hl : i < s.data.toList.length := by simpa using h2
  unfold sbytes bt
  rw [List.getD_eq_getElem?_getD, List.getElem?_map, List.getElem?_eq_getElem hl]
  show (((s.data.toList[i]).toNat : Nat) : Int) = ((s.data[i]!).toNat : Int)
  rw [getElem!_pos s.data i h2, Array.getElem_toList]
def post (v least w : Int) : Int × Int := if v < least ∨ 1114111 < v ∨ (55296 ≤ v ∧ v ≤ 57343) then (-1, 1) else (v, w)
def cont (b : Nat) : Prop := 128 ≤ b ∧ b ≤ 191
instance (b : Nat) : Decidable (cont b) := by unfold cont; infer_instance
/-- the document's rune, out of four bytes -/
def refN (m b0 b1 b2 b3 : Nat) : Int × Int :=
  if b0 < 128 then ((b0 : Int), 1)
  else if b0 < 194 then (-1, 1)
  else if b0 ≤ 223 then (if 2 ≤ m ∧ cont b1 then post (64 * ((b0 : Int) - 192) + b1 - 128) 128 2 else (-1, 1))
  else if b0 ≤ 239 then (if 3 ≤ m ∧ cont b1 ∧ cont b2 then post (64 * (64 * ((b0 : Int) - 224) + b1 - 128) + b2 - 128) 2048 3 else (-1, 1))
  else if b0 ≤ 244 then (if 4 ≤ m ∧ cont b1 ∧ cont b2 ∧ cont b3 then post (64 * (64 * (64 * ((b0 : Int) - 240) + b1 - 128) + b2 - 128) + b3 - 128) 65536 4 else (-1, 1))
  else (-1, 1)
section
variable {n m k : Nat} {s : ByteArray} {i : Nat} {N least v : Int} {j : Nat}
theorem rl_ok (hs : s.size ≤ 1000000) (hj : (j : Int) < N) (hi : i + j < s.size) (hv : 0 ≤ v ∧ v ≤ 1000000000) (hc : cont (bt s (i + j))) : ref16_Rune.l0 n m (k + 1) (s, (i : Int), N, least, v, (j : Int), ()) = ref16_Rune.l0 n m k (s, (i : Int), N, least, 64 * v + (bt s (i + j) : Int) - 128, ((j + 1 : Nat) : Int), ()) := by
  have hb := bt_lt s (i + j)
  unfold cont at hc
  have e1 : wr .i64 ((i : Int) + (j : Int)) = ((i + j : Nat) : Int) := by rw [wr64 (by omega) (by omega)]; omega
  have e2 : wr .i64 (64 * v) = 64 * v := wr64 (by omega) (by omega)
  have e3 : wr .i64 (bt s (i + j) : Int) = (bt s (i + j) : Int) := wr64 (by omega) (by omega)
  have e4 : wr .i64 (64 * v + (bt s (i + j) : Int)) = 64 * v + (bt s (i + j) : Int) := wr64 (by omega) (by omega)
  have e5 : wr .i64 (64 * v + (bt s (i + j) : Int) - 128) = 64 * v + (bt s (i + j) : Int) - 128 := wr64 (by omega) (by omega)
  have e6 : wr .i64 ((j : Int) + 1) = ((j + 1 : Nat) : Int) := by rw [wr64 (by omega) (by omega)]; omega
  rw [ref16_Rune.l0_eq, if_pos (by simpa using hj), e1, if_pos (by omega), if_pos (by omega), Int.toNat_natCast, get_bt hi, e3, if_neg (by simp; omega), if_neg (by simp; omega), e2, e4, e5, e6]
theorem rl_bad (hs : s.size ≤ 1000000) (hj : (j : Int) < N) (hi : i + j < s.size) (hc : ¬ cont (bt s (i + j))) : ref16_Rune.l0 n m (k + 1) (s, (i : Int), N, least, v, (j : Int), ()) = some (Sum.inl (-1, 1, ())) := by
  have hb := bt_lt s (i + j)
  unfold cont at hc
  have e1 : wr .i64 ((i : Int) + (j : Int)) = ((i + j : Nat) : Int) := by rw [wr64 (by omega) (by omega)]; omega
  have e3 : wr .i64 (bt s (i + j) : Int) = (bt s (i + j) : Int) := wr64 (by omega) (by omega)
  rw [ref16_Rune.l0_eq, if_pos (by simpa using hj), e1, if_pos (by omega), if_pos (by omega), Int.toNat_natCast, get_bt hi, e3]
  by_cases h : bt s (i + j) < 128
  · rw [if_pos (by simp; omega)]
  · rw [if_neg (by simp; omega), if_pos (by simp; omega)]
theorem rl_end (hj : (j : Int) = N) : ref16_Rune.l0 n m (k + 1) (s, (i : Int), N, least, v, (j : Int), ()) = some (Sum.inr (N, least, v, ())) := by
  rw [ref16_Rune.l0_eq, if_neg (by simp; omega)]
end
theorem post_is (v least w : Int) : (if (decide (v < least)) = true then (some (((-1) : Int), (1 : Int), ())) else (if (decide (v > (1114111 : Int))) = true then (some (((-1) : Int), (1 : Int), ())) else (if (decide (v ≥ (55296 : Int))) = true then (if (decide (v ≤ (57343 : Int))) = true then (some (((-1) : Int), (1 : Int), ())) else (some (v, w, ()))) else (some (v, w, ()))))) = some ((post v least w).1, (post v least w).2, ()) := by
  unfold post
  by_cases h1 : v < least
  · simp [h1]
  · by_cases h2 : v > 1114111
    · simp [h1, h2]
    · by_cases h3 : v ≥ 55296 <;> by_cases h4 : v ≤ 57343 <;> simp [h1, h2, h3, h4]
theorem rune_is {n : Nat} (hn : 1000 ≤ n) {s : ByteArray} (hs : s.size ≤ 1000000) {i : Nat} (h : i < s.size) : ref16_Rune.f n (s, (i : Int), ()) = some ((refN (s.size - i) (bt s i) (bt s (i + 1)) (bt s (i + 2)) (bt s (i + 3))).1, (refN (s.size - i) (bt s i) (bt s (i + 1)) (bt s (i + 2)) (bt s (i + 3))).2, ()) := by
  obtain ⟨k, rfl⟩ : ∃ k, n = k + 1 + 1 + 1 + 1 := ⟨n - 4, by omega⟩
  have hb := bt_lt s i
  have hb1 := bt_lt s (i + 1)
  have hb2 := bt_lt s (i + 2)
  have e0 : wr .i64 (bt s i : Int) = (bt s i : Int) := wr64 (by omega) (by omega)
  have e2 : wr .i64 ((i : Int) + 2) = (i : Int) + 2 := wr64 (by omega) (by omega)
  have e3 : wr .i64 ((i : Int) + 3) = (i : Int) + 3 := wr64 (by omega) (by omega)
  have e4 : wr .i64 ((i : Int) + 4) = (i : Int) + 4 := wr64 (by omega) (by omega)
  rw [ref16_Rune.eq, if_pos (by omega), if_pos (by omega), Int.toNat_natCast, get_bt h, e0]
  unfold refN
  by_cases c0 : bt s i < 128
  · rw [if_pos (by simp; omega), if_pos c0]
  rw [if_neg (by simp; omega), if_neg c0]
  by_cases c1 : bt s i < 194
  · rw [if_neg (by simp; omega), if_neg (by simp; omega), if_neg (by simp; omega), if_pos c1]
  rw [if_pos (by simp; omega), if_neg c1]
  by_cases c2 : bt s i ≤ 223
  · rw [if_pos (by simp; omega), if_pos c2, e2]
    by_cases d : i + 2 ≤ s.size
    · rw [if_neg (by simp; omega), wr64 (x := (bt s i : Int) - 192) (by omega) (by omega)]
      by_cases q1 : cont (bt s (i + 1))
      · have g1 := rl_ok (n := k + 1 + 1 + 1 + 1) (m := k + 1 + 1 + 1 + 1) (k := k + 1 + 1 + 1) (s := s) (i := i) (N := 2) (least := 128) (v := (bt s i : Int) - 192) (j := 1) hs (by decide) (by omega) (by omega) q1
        have g2 := rl_end (n := k + 1 + 1 + 1 + 1) (m := k + 1 + 1 + 1 + 1) (k := k + 1 + 1) (s := s) (i := i) (N := 2) (least := 128) (v := 64 * ((bt s i : Int) - 192) + (bt s (i + 1) : Int) - 128) (j := 2) rfl
        rw [if_pos ⟨by omega, q1⟩]
        refine (congrArg (Option.bind · _) (g1.trans g2)).trans ?_
        exact post_is _ 128 2
      · have g1 := rl_bad (n := k + 1 + 1 + 1 + 1) (m := k + 1 + 1 + 1 + 1) (k := k + 1 + 1 + 1) (s := s) (i := i) (N := 2) (least := 128) (v := (bt s i : Int) - 192) (j := 1) hs (by decide) (by omega) q1
        rw [if_neg (fun hh => q1 hh.2)]
        exact (congrArg (Option.bind · _) g1)
    · rw [if_pos (by simp; omega), if_neg (by omega)]
  rw [if_neg (by simp; omega), if_neg c2, if_pos (by simp; omega)]
  by_cases c3 : bt s i ≤ 239
  · rw [if_pos (by simp; omega), if_pos c3, e3]
    by_cases d : i + 3 ≤ s.size
    · rw [if_neg (by simp; omega), wr64 (x := (bt s i : Int) - 224) (by omega) (by omega)]
      by_cases q1 : cont (bt s (i + 1))
      · have g1 := rl_ok (n := k + 1 + 1 + 1 + 1) (m := k + 1 + 1 + 1 + 1) (k := k + 1 + 1 + 1) (s := s) (i := i) (N := 3) (least := 2048) (v := (bt s i : Int) - 224) (j := 1) hs (by decide) (by omega) (by omega) q1
        have q1' := q1
        unfold cont at q1'
        by_cases q2 : cont (bt s (i + 2))
        · have g2 := rl_ok (n := k + 1 + 1 + 1 + 1) (m := k + 1 + 1 + 1 + 1) (k := k + 1 + 1) (s := s) (i := i) (N := 3) (least := 2048) (v := 64 * ((bt s i : Int) - 224) + (bt s (i + 1) : Int) - 128) (j := 2) hs (by decide) (by omega) (by omega) q2
          have g3 := rl_end (n := k + 1 + 1 + 1 + 1) (m := k + 1 + 1 + 1 + 1) (k := k + 1) (s := s) (i := i) (N := 3) (least := 2048) (v := 64 * (64 * ((bt s i : Int) - 224) + (bt s (i + 1) : Int) - 128) + (bt s (i + 2) : Int) - 128) (j := 3) rfl
          rw [if_pos ⟨by omega, q1, q2⟩]
          refine (congrArg (Option.bind · _) (g1.trans (g2.trans g3))).trans ?_
          exact post_is _ 2048 3
        · have g2 := rl_bad (n := k + 1 + 1 + 1 + 1) (m := k + 1 + 1 + 1 + 1) (k := k + 1 + 1) (s := s) (i := i) (N := 3) (least := 2048) (v := 64 * ((bt s i : Int) - 224) + (bt s (i + 1) : Int) - 128) (j := 2) hs (by decide) (by omega) q2
          rw [if_neg (fun hh => q2 hh.2.2)]
          exact (congrArg (Option.bind · _) (g1.trans g2))
      · have g1 := rl_bad (n := k + 1 + 1 + 1 + 1) (m := k + 1 + 1 + 1 + 1) (k := k + 1 + 1 + 1) (s := s) (i := i) (N := 3) (least := 2048) (v := (bt s i : Int) - 224) (j := 1) hs (by decide) (by omega) q1
        rw [if_neg (fun hh => q1 hh.2.1)]
        exact (congrArg (Option.bind · _) g1)
    · rw [if_pos (by simp; omega), if_neg (by omega)]
  rw [if_neg (by simp; omega), if_neg c3, if_pos (by simp; omega)]
  by_cases c4 : bt s i ≤ 244
  · rw [if_pos (by simp; omega), if_pos c4, e4]
    by_cases d : i + 4 ≤ s.size
    · rw [if_neg (by simp; omega), wr64 (x := (bt s i : Int) - 240) (by omega) (by omega)]
      by_cases q1 : cont (bt s (i + 1))
      · have g1 := rl_ok (n := k + 1 + 1 + 1 + 1) (m := k + 1 + 1 + 1 + 1) (k := k + 1 + 1 + 1) (s := s) (i := i) (N := 4) (least := 65536) (v := (bt s i : Int) - 240) (j := 1) hs (by decide) (by omega) (by omega) q1
        have q1' := q1
        unfold cont at q1'
        by_cases q2 : cont (bt s (i + 2))
        · have g2 := rl_ok (n := k + 1 + 1 + 1 + 1) (m := k + 1 + 1 + 1 + 1) (k := k + 1 + 1) (s := s) (i := i) (N := 4) (least := 65536) (v := 64 * ((bt s i : Int) - 240) + (bt s (i + 1) : Int) - 128) (j := 2) hs (by decide) (by omega) (by omega) q2
          have q2' := q2
          unfold cont at q2'
          by_cases q3 : cont (bt s (i + 3))
          · have g3 := rl_ok (n := k + 1 + 1 + 1 + 1) (m := k + 1 + 1 + 1 + 1) (k := k + 1) (s := s) (i := i) (N := 4) (least := 65536) (v := 64 * (64 * ((bt s i : Int) - 240) + (bt s (i + 1) : Int) - 128) + (bt s (i + 2) : Int) - 128) (j := 3) hs (by decide) (by omega) (by omega) q3
            have g4 := rl_end (n := k + 1 + 1 + 1 + 1) (m := k + 1 + 1 + 1 + 1) (k := k) (s := s) (i := i) (N := 4) (least := 65536) (v := 64 * (64 * (64 * ((bt s i : Int) - 240) + (bt s (i + 1) : Int) - 128) + (bt s (i + 2) : Int) - 128) + (bt s (i + 3) : Int) - 128) (j := 4) rfl
            rw [if_pos ⟨by omega, q1, q2, q3⟩]
            refine (congrArg (Option.bind · _) (g1.trans (g2.trans (g3.trans g4)))).trans ?_
            exact post_is _ 65536 4
          · have g3 := rl_bad (n := k + 1 + 1 + 1 + 1) (m := k + 1 + 1 + 1 + 1) (k := k + 1) (s := s) (i := i) (N := 4) (least := 65536) (v := 64 * (64 * ((bt s i : Int) - 240) + (bt s (i + 1) : Int) - 128) + (bt s (i + 2) : Int) - 128) (j := 3) hs (by decide) (by omega) q3
            rw [if_neg (fun hh => q3 hh.2.2.2)]
            exact (congrArg (Option.bind · _) (g1.trans (g2.trans g3)))
        · have g2 := rl_bad (n := k + 1 + 1 + 1 + 1) (m := k + 1 + 1 + 1 + 1) (k := k + 1 + 1) (s := s) (i := i) (N := 4) (least := 65536) (v := 64 * ((bt s i : Int) - 240) + (bt s (i + 1) : Int) - 128) (j := 2) hs (by decide) (by omega) q2
          rw [if_neg (fun hh => q2 hh.2.2.1)]
          exact (congrArg (Option.bind · _) (g1.trans g2))
      · have g1 := rl_bad (n := k + 1 + 1 + 1 + 1) (m := k + 1 + 1 + 1 + 1) (k := k + 1 + 1 + 1) (s := s) (i := i) (N := 4) (least := 65536) (v := (bt s i : Int) - 240) (j := 1) hs (by decide) (by omega) q1
        rw [if_neg (fun hh => q1 hh.2.1)]
        exact (congrArg (Option.bind · _) g1)
    · rw [if_pos (by simp; omega), if_neg (by omega)]
  rw [if_neg (by simp; omega), if_neg c4]
/-- may the document's rune stand there? -/
def okR (v : Int) : Bool := !(decide (v < 32) || (decide (127 ≤ v) && decide (v ≤ 159)) || v == 92 || v == 58 || v == 65533)
theorem mayV_iff (v : Int) : mayV v = true ↔ 32 ≤ v ∧ (v < 127 ∨ 159 < v) ∧ v ≠ 92 ∧ v ≠ 58 ∧ v ≠ 65533 := by
  unfold mayV
  simp only [Bool.and_eq_true, Bool.or_eq_true, decide_eq_true_eq, bne_iff_ne]
  omega
theorem okR_iff (v : Int) : okR v = true ↔ 32 ≤ v ∧ (v < 127 ∨ 159 < v) ∧ v ≠ 92 ∧ v ≠ 58 ∧ v ≠ 65533 := by
  unfold okR
  simp only [Bool.not_eq_true', Bool.or_eq_false_iff, Bool.and_eq_false_iff, decide_eq_false_iff_not, beq_eq_false_iff_ne]
  omega
theorem may_ok (v : Int) : okR v = mayV v := by
  rw [Bool.eq_iff_iff, okR_iff, mayV_iff]
/-- Both read the same rune, or none that may stand there. -/
theorem rune_same (m b0 b1 b2 b3 : Nat) (h0 : b0 < 256) (h1 : b1 < 256) (h2 : b2 < 256) (h3 : b3 < 256) : (refN m b0 b1 b2 b3 = (((Lib.decodeN m b0 b1 b2 b3).1 : Int), ((Lib.decodeN m b0 b1 b2 b3).2 : Int))) ∨ (refN m b0 b1 b2 b3 = (-1, 1) ∧ Lib.decodeN m b0 b1 b2 b3 = (65533, 1)) := by
  unfold refN Lib.decodeN post cont
  by_cases c0 : b0 < 128
  · rw [if_pos c0, if_pos c0]; exact .inl rfl
  rw [if_neg c0, if_neg c0]
  by_cases c1 : b0 < 194
  · rw [if_pos c1]
    refine .inr ⟨rfl, ?_⟩
    rw [if_neg (show ¬ (b0 / 16 = 14 ∧ _) by omega), if_neg (show ¬ (b0 / 8 = 30 ∧ _) by omega)]
    split
    · rw [if_neg (by omega)]
    · rfl
  rw [if_neg c1]
  by_cases c2 : b0 ≤ 223
  · rw [if_pos c2, if_neg (show ¬ (b0 / 16 = 14 ∧ _) by omega), if_neg (show ¬ (b0 / 8 = 30 ∧ _) by omega)]
    by_cases d : 2 ≤ m ∧ 128 ≤ b1 ∧ b1 ≤ 191
    · rw [if_pos d, if_neg (by omega), if_pos (by omega), if_pos (by omega)]
      left
      simp only [Prod.mk.injEq]
      omega
    · rw [if_neg d, if_neg (by omega)]; exact .inr ⟨rfl, rfl⟩
  rw [if_neg c2, if_neg (show ¬ (b0 / 32 = 6 ∧ _) by omega)]
  by_cases c3 : b0 ≤ 239
  · rw [if_pos c3, if_neg (show ¬ (b0 / 8 = 30 ∧ _) by omega)]
    by_cases d : 3 ≤ m ∧ (128 ≤ b1 ∧ b1 ≤ 191) ∧ (128 ≤ b2 ∧ b2 ≤ 191)
    · rw [if_pos d]
      split
      · rw [if_pos (by omega), if_neg (by omega)]
        exact .inr ⟨rfl, rfl⟩
      · rw [if_pos (by omega), if_pos (by omega)]
        left
        simp only [Prod.mk.injEq]
        omega
    · rw [if_neg d, if_neg (by omega)]; exact .inr ⟨rfl, rfl⟩
  rw [if_neg c3, if_neg (show ¬ (b0 / 16 = 14 ∧ _) by omega)]
  by_cases c4 : b0 ≤ 244
  · rw [if_pos c4]
    by_cases d : 4 ≤ m ∧ (128 ≤ b1 ∧ b1 ≤ 191) ∧ (128 ≤ b2 ∧ b2 ≤ 191) ∧ (128 ≤ b3 ∧ b3 ≤ 191)
    · rw [if_pos d]
      split
      · rw [if_pos (by omega), if_neg (by omega)]
        exact .inr ⟨rfl, rfl⟩
      · rw [if_pos (by omega), if_pos (by omega)]
        left
        simp only [Prod.mk.injEq]
        omega
    · rw [if_neg d, if_neg (by omega)]; exact .inr ⟨rfl, rfl⟩
  rw [if_neg c4]
  refine .inr ⟨rfl, ?_⟩
  split
  · rw [if_neg (by omega)]
  · rfl
end Go.Proofs.YtcnegcjjeakmmaaDoor.Vm

namespace Go.Proofs.YtcnegcjjeakmmaaDoor.Vm
open Go Go.RowKit
set_option linter.unusedVariables false
set_option linter.unusedSimpArgs false
set_option maxRecDepth 10000
@[reducible] def mayO : Int → Option Bool := fun c => some (mayV c)
@[reducible] def partO : ByteArray → Option Bool := fun t => some (partV t)
@[reducible] def RW : Type := (Int × Unit) ⊕ (ByteArray × Unit)
theorem tree_is (v : Int) (X : Option RW) : (if (decide (v < (32 : Int))) = true then (some (Sum.inl ((40 : Int), ()))) else (if (decide (v ≥ (127 : Int))) = true then (if (decide (v ≤ (159 : Int))) = true then (some (Sum.inl ((40 : Int), ()))) else (if (v == (92 : Int)) = true then (some (Sum.inl ((40 : Int), ()))) else (if (v == (58 : Int)) = true then (some (Sum.inl ((40 : Int), ()))) else (if (v == (65533 : Int)) = true then (some (Sum.inl ((40 : Int), ()))) else X)))) else (if (v == (92 : Int)) = true then (some (Sum.inl ((40 : Int), ()))) else (if (v == (58 : Int)) = true then (some (Sum.inl ((40 : Int), ()))) else (if (v == (65533 : Int)) = true then (some (Sum.inl ((40 : Int), ()))) else X))))) = if mayV v = true then X else (some (Sum.inl ((40 : Int), ())) : Option RW) := by
  by_cases h : mayV v = true
  · have h' := (mayV_iff v).1 h
    rw [if_pos h, if_neg (by simp; omega)]
    by_cases h1 : v ≥ 127
    · rw [if_pos (by simp; omega), if_neg (by simp; omega), if_neg (by simp; omega), if_neg (by simp; omega), if_neg (by simp; omega)]
    · rw [if_neg (by simp; omega), if_neg (by simp; omega), if_neg (by simp; omega), if_neg (by simp; omega)]
  · have h' : ¬ (32 ≤ v ∧ (v < 127 ∨ 159 < v) ∧ v ≠ 92 ∧ v ≠ 58 ∧ v ≠ 65533) := fun g => h ((mayV_iff v).2 g)
    rw [if_neg h]
    by_cases a1 : v < 32
    · rw [if_pos (by simp; omega)]
    rw [if_neg (by simp; omega)]
    by_cases a2 : v = 92
    · subst a2; rfl
    by_cases a3 : v = 58
    · subst a3; rfl
    by_cases a4 : v = 65533
    · subst a4; rfl
    rw [if_pos (by simp; omega), if_pos (by simp; omega)]
theorem scan_ref {n m : Nat} (hn : 1000 ≤ n) {s : ByteArray} (hs : s.size ≤ 1000000) : ∀ (k pos : Nat) (b : Bool), pos ≤ 2000000 → Nm.scan mayO k s pos = some b → ref16_Check.l0 n m k (s, (pos : Int), ()) = some (if b = true then Sum.inr (s, ()) else Sum.inl (40, ()))
  | 0, pos, b, _, h => by cases h
  | k + 1, pos, b, hp, h => by
    unfold Nm.scan at h
    rw [ref16_Check.l0_eq]
    by_cases c : pos < s.size
    · rw [if_pos c, Option.bind_some] at h
      rw [if_pos (by simp; omega), rune_is hn hs c, Option.bind_some]
      have e := Lib.decode_at s pos
      have hr := rune_same (s.size - pos) (bt s pos) (bt s (pos + 1)) (bt s (pos + 2)) (bt s (pos + 3)) (bt_lt _ _) (bt_lt _ _) (bt_lt _ _) (bt_lt _ _)
      have e' : Go.Utf8.decode s pos = Lib.decodeN (s.size - pos) (bt s pos) (bt s (pos + 1)) (bt s (pos + 2)) (bt s (pos + 3)) := e
      rw [← e'] at hr
      refine (tree_is _ _).trans ?_
      rcases hr with hr | ⟨hr1, hr2⟩
      · rw [hr]
        dsimp only
        by_cases hm : mayV ((Go.Utf8.decode s pos).1 : Int) = true
        · rw [if_pos hm] at h ⊢
          have hw := Lib.decodeN_width_le (s.size - pos) (bt s pos) (bt s (pos + 1)) (bt s (pos + 2)) (bt s (pos + 3)) (by omega)
          rw [← e'] at hw
          rw [wr64 (by omega) (by omega), show (pos : Int) + ((Go.Utf8.decode s pos).2 : Int) = ((pos + (Go.Utf8.decode s pos).2 : Nat) : Int) by omega]
          exact scan_ref hn hs k _ b (by omega) h
        · rw [if_neg hm] at h ⊢
          cases h
          rfl
      · rw [hr2, if_neg (show ¬ mayV ((65533 : Nat) : Int) = true by decide)] at h
        cases h
        rw [hr1]
        exact if_neg (by decide)
    · rw [if_neg c] at h
      cases h
      rw [if_neg (by simp; omega)]
      rfl
/-- a name's parts -/
def splitF : Nat → ByteArray → List ByteArray
  | 0, _ => []
  | k + 1, t => Nm.hd t :: if Nm.idx t < 0 then [] else splitF k (Nm.tl t)
theorem chk_split : ∀ (k : Nat) (t : ByteArray), t.size < k → Nm.chk partO k t = some ((splitF k t).all partV)
  | 0, t, h => absurd h (by omega)
  | k + 1, t, h => by
    unfold Nm.chk splitF
    rw [Option.bind_some, List.all_cons]
    cases partV (Nm.hd t) with
    | false => rfl
    | true =>
      rw [if_pos rfl, Bool.true_and]
      by_cases hi : Nm.idx t < 0
      · rw [if_pos hi, if_pos hi]; rfl
      · rw [if_neg hi, if_neg hi]
        refine chk_split k _ ?_
        have hr := Nm.idx_range t
        unfold Nm.tl
        rw [ByteArray.size_extract]
        omega
theorem ext_get (s : ByteArray) (a k : Nat) : (s.extract a s.size).data.toList[k]? = s.data.toList[a + k]? := by
  rw [ByteArray.data_extract, Array.toList_extract, List.extract_eq_take_drop, List.getElem?_take, List.getElem?_drop]
  split
  · rfl
  · rename_i h
    rw [List.getElem?_eq_none]
    have : s.data.toList.length = s.size := by first | rfl | simp
    omega
theorem bt_get {s : ByteArray} {i : Nat} (h : i < s.size) : s.data.toList[i]? = some (47 : UInt8) ↔ bt s i = 47 := by
  have h2 : i < s.data.size := h
  have hl : i < s.data.toList.length := by simpa using h2
  rw [List.getElem?_eq_getElem hl]
  unfold bt
  show some (s.data.toList[i]) = some 47 ↔ (s.data[i]!).toNat = 47
  rw [getElem!_pos s.data i h2, Array.getElem_toList]
  constructor
  · intro e; rw [Option.some.inj e]; rfl
  · intro e; rw [show s.data[i] = 47 from UInt8.toNat_inj.1 e]
def noS (s : ByteArray) (a i : Nat) : Prop := ∀ j, a ≤ j → j < i → bt s j ≠ 47
theorem idx_none {s : ByteArray} {a : Nat} (ha : a ≤ s.size) (h : noS s a s.size) : Nm.idx (s.extract a s.size) < 0 := by
  rcases Nm.idx_range (s.extract a s.size) with e | ⟨e1, e2⟩
  · omega
  · exfalso
    rw [ByteArray.size_extract] at e2
    obtain ⟨o, ho⟩ := Int.eq_ofNat_of_zero_le e1
    have := (Lib.indexByte_some (l := (s.extract a s.size).data.toList) (c := 47) (o := o) ho).1
    rw [ext_get] at this
    exact h (a + o) (by omega) (by omega) ((bt_get (by omega)).1 this)
theorem idx_at {s : ByteArray} {a i : Nat} (hi : i < s.size) (ha : a ≤ i) (h : noS s a i) (h47 : bt s i = 47) : Nm.idx (s.extract a s.size) = ((i - a : Nat) : Int) := by
  have g := (bt_get hi).2 h47
  rcases Nm.idx_range (s.extract a s.size) with e | ⟨e1, e2⟩
  · exfalso
    have := Lib.indexByte_none (l := (s.extract a s.size).data.toList) (c := 47) e (i - a)
    rw [ext_get, show a + (i - a) = i by omega] at this
    exact this g
  · obtain ⟨o, ho⟩ := Int.eq_ofNat_of_zero_le e1
    have hlt : (a + o : Nat) < s.size := by rw [ByteArray.size_extract] at e2; omega
    obtain ⟨k1, k2⟩ := Lib.indexByte_some (l := (s.extract a s.size).data.toList) (c := 47) (o := o) ho
    rw [ext_get] at k1
    have k1' := (bt_get hlt).1 k1
    rw [ho]
    by_cases h1 : o < i - a
    · exact absurd k1' (h (a + o) (by omega) (by omega))
    · by_cases h2 : i - a < o
      · have := k2 (i - a) h2
        rw [ext_get, show a + (i - a) = i by omega] at this
        exact absurd g this
      · omega
theorem parts_l0 {n m : Nat} {s : ByteArray} (hs : s.size ≤ 1000000) : ∀ (d i a k K : Nat) (out : List ByteArray), i + d = s.size → a ≤ i → noS s a i → out.length ≤ a → d + 1 < k → s.size - a < K → ref16_Parts.l0 n m k (s, out, (a : Int), (i : Int), ()) = some (out ++ splitF K (s.extract a s.size), ())
  | d, i, a, 0, K, out, _, _, _, _, h, _ => absurd h (by omega)
  | d, i, a, k + 1, 0, out, _, _, _, _, h, h' => absurd h' (by omega)
  | 0, i, a, k + 1, K + 1, out, hi, ha, hno, hl, hk, hK => by
    have hi : i = s.size := by omega
    subst hi
    obtain ⟨k, rfl⟩ : ∃ k', k = k' + 1 := ⟨k - 1, by omega⟩
    have hx := idx_none ha hno
    rw [ref16_Parts.l0_eq, if_pos (by simp), if_pos (by simp), if_pos (by omega), if_pos (by omega), if_pos (by omega), if_pos (lim_of (by simp; omega)), wr64 (by omega) (by omega), ref16_Parts.l0_eq, if_neg (by simp <;> omega)]
    unfold splitF
    rw [if_pos hx, Int.toNat_natCast, Int.toNat_natCast]
    unfold Nm.hd
    rw [if_pos hx]
  | d + 1, i, a, k + 1, K + 1, out, hi, ha, hno, hl, hk, hK => by
    have hlt : i < s.size := by omega
    rw [ref16_Parts.l0_eq, if_pos (by simp; omega), if_neg (by simp; omega), if_pos (by omega), if_pos (by omega), Int.toNat_natCast, get_bt hlt]
    by_cases h47 : bt s i = 47
    · have hx := idx_at hlt ha hno h47
      rw [if_pos (by simp; omega), if_pos (by omega), if_pos (by omega), if_pos (by omega), if_pos (lim_of (by simp; omega)), wr64 (by omega) (by omega), Int.toNat_natCast, show (i : Int) + 1 = ((i + 1 : Nat) : Int) by omega]
      rw [parts_l0 hs d (i + 1) (i + 1) k K _ (by omega) (Nat.le_refl _) (fun j h1 h2 => by omega) (by simp; omega) (by omega) (by omega)]
      have e1 : Nm.hd (s.extract a s.size) = s.extract a i := by
        unfold Nm.hd
        rw [if_neg (by omega), hx, Int.toNat_natCast, ByteArray.extract_extract]
        congr 1
        omega
      have e2 : Nm.tl (s.extract a s.size) = s.extract (i + 1) s.size := by
        unfold Nm.tl
        rw [hx, Int.toNat_natCast, ByteArray.extract_extract, ByteArray.size_extract]
        congr 1 <;> omega
      conv => rhs; unfold splitF
      rw [e1, e2, if_neg (by omega), List.append_assoc]
      rfl
    · rw [if_neg (by simp; omega), wr64 (by omega) (by omega), show (i : Int) + 1 = ((i + 1 : Nat) : Int) by omega]
      exact parts_l0 hs d (i + 1) a k (K + 1) out (by omega) (by omega) (fun j h1 h2 => by
        by_cases e : j = i
        · subst e; exact h47
        · exact hno j h1 (by omega)) hl (by omega) hK
theorem l2_is {n m : Nat} {xs : List ByteArray} (hl : xs.length ≤ 1000000) : ∀ (d i k : Nat), i + d = xs.length → d < k → ref16_Check.l2 n m k (xs, (i : Int), ()) = some (if (xs.drop i).all partV = true then Sum.inr () else Sum.inl (40, ()))
  | 0, i, 0, _, h => absurd h (by decide)
  | d + 1, i, 0, _, h => absurd h (by omega)
  | 0, i, k + 1, hi, hk => by
    rw [ref16_Check.l2_eq, if_neg (by simp; omega), List.drop_eq_nil_of_le (by omega)]
    rfl
  | d + 1, i, k + 1, hi, hk => by
    have hlt : i < xs.length := by omega
    have e : xs.getD i ByteArray.empty = xs[i] := by rw [List.getD_eq_getElem?_getD, List.getElem?_eq_getElem hlt]; rfl
    rw [ref16_Check.l2_eq, if_pos (by simp; omega), if_pos (by omega), if_pos (by omega), Int.toNat_natCast, e, List.drop_eq_getElem_cons hlt, List.all_cons]
    unfold partV
    by_cases h1 : (ByteArray.toList xs[i] == ByteArray.toList ByteArray.empty) = true
    · rw [if_pos h1, h1]; rfl
    · rw [if_neg h1, if_pos (by omega), if_pos (by omega)]
      have h1' : (ByteArray.toList xs[i] == ByteArray.toList ByteArray.empty) = false := by simpa using h1
      by_cases h2 : (ByteArray.toList xs[i] == ByteArray.toList (ByteArray.mk #[46])) = true
      · rw [if_pos h2, h2, h1']; rfl
      · have h2' : (ByteArray.toList xs[i] == ByteArray.toList (ByteArray.mk #[46])) = false := by simpa using h2
        rw [if_neg h2, if_pos (by omega), if_pos (by omega)]
        by_cases h3 : (ByteArray.toList xs[i] == ByteArray.toList (ByteArray.mk #[46, 46])) = true
        · rw [if_pos h3, h3, h2', h1']; rfl
        · have h3' : (ByteArray.toList xs[i] == ByteArray.toList (ByteArray.mk #[46, 46])) = false := by simpa using h3
          rw [if_neg h3, wr64 (by omega) (by omega), show (i : Int) + 1 = ((i + 1 : Nat) : Int) by omega, l2_is hl d (i + 1) k (by omega) (by omega), h1', h2', h3']
          rfl
theorem splitF_len : ∀ (k : Nat) (t : ByteArray), t.size < k → (splitF k t).length ≤ t.size + 1
  | 0, t, h => absurd h (by omega)
  | k + 1, t, h => by
    unfold splitF
    rw [List.length_cons]
    by_cases hi : Nm.idx t < 0
    · rw [if_pos hi]; simp
    · rw [if_neg hi]
      have hr := Nm.idx_range t
      have hs : (Nm.tl t).size + 1 ≤ t.size := by
        unfold Nm.tl
        rw [ByteArray.size_extract]
        omega
      have := splitF_len k (Nm.tl t) (by omega)
      omega
theorem rname_is {n : Nat} (hn : 1000 ≤ n) (x : ByteArray × Unit) : ref16_Check.f n x = some (nmV n x.1, ()) := by
  obtain ⟨s, u⟩ := x
  refine (ref16_Check.eq n s).trans ?_
  show _ = some (nmV n s, ())
  by_cases h0 : s.size < 1
  · rw [if_pos (by simp; omega), nmV_long (.inl (by omega))]
  by_cases h1 : 255 < s.size
  · rw [if_neg (by simp; omega), if_pos (by simp; omega), nmV_long (.inr h1)]
  rw [if_neg (by simp; omega), if_neg (by simp; omega)]
  have hv := (check_total (n := n) (by omega) s).1
  unfold Nm.checkN at hv
  rw [if_neg (by omega)] at hv
  obtain ⟨b, hb⟩ := scan_total s n 0 (by omega) (by omega)
  rw [hb, Option.bind_some] at hv
  have g1 := scan_ref (n := n) (m := n) hn (s := s) (by omega) n 0 b (by omega) hb
  refine (congrArg (Option.bind · _) g1).trans ?_
  rw [Option.bind_some]
  cases b with
  | false =>
    cases hv' : nmV n s with
    | ofNat v => rw [hv'] at hv; cases hv; rfl
    | negSucc v => rw [hv'] at hv; cases hv
  | true =>
    rw [if_pos rfl, chk_split n s (by omega), Option.bind_some] at hv
    have e0 : s.extract 0 s.size = s := ByteArray.extract_zero_size
    have g2 := parts_l0 (n := n) (m := n) (s := s) (by omega) s.size 0 0 n n [] (by omega) (Nat.le_refl _) (fun j h1 h2 => by omega) (by simp) (by omega) (by omega)
    rw [e0, List.nil_append] at g2
    have g3 := l2_is (n := n) (m := n) (xs := splitF n s) (by have := splitF_len n s (by omega); omega) (splitF n s).length 0 n (by omega) (by have := splitF_len n s (by omega); omega)
    show (ref16_Parts.f n (s, ())).bind _ = _
    rw [ref16_Parts.eq]
    refine (congrArg (fun q => Option.bind (Option.bind q _) _) g2).trans ?_
    show (ref16_Check.l2 n n n (splitF n s, 0, ())).bind _ = _
    refine (congrArg (Option.bind · _) g3).trans ?_
    rw [Option.bind_some, List.drop_zero]
    rw [← Option.some.inj hv]
    cases (splitF n s).all partV <;> rfl
end Go.Proofs.YtcnegcjjeakmmaaDoor.Vm

namespace Go.Proofs.YtcnegcjjeakmmaaDoor.Vm
open Go Go.RowKit
set_option linter.unusedVariables false
set_option linter.unusedSimpArgs false
set_option maxRecDepth 100000
theorem rdays_is (n : Nat) (x : Int × Int × Unit) : ref17_Days.f n x = some (days x.1 x.2.1, ()) := by
  obtain ⟨y, m, u⟩ := x
  refine (ref17_Days.eq n y m).trans ?_
  show _ = some (days y m, ())
  unfold days
  by_cases h1 : m < 1
  · simp [h1]
  by_cases h2 : 12 < m
  · simp [h2]
  rw [if_neg (by simp; omega), if_neg (by simp; omega), if_neg (show ¬ (m < 1 ∨ 12 < m) by omega)]
  by_cases h3 : m = 2
  · subst h3
    by_cases a : y.tmod 400 = 0
    · have a4 : y.tmod 4 = 0 := Int.tmod_eq_zero_of_dvd (Int.dvd_trans (by decide) (Int.dvd_of_tmod_eq_zero a))
      simp [a, a4]
    · by_cases b : y.tmod 4 = 0
      · by_cases c : y.tmod 100 = 0
        · simp [a, b, c]; rfl
        · simp [a, b, c]
      · simp [a, b]; rfl
  · rw [if_neg (by simpa using h3), if_neg (show ¬ (m = 2 ∧ y.tmod 4 = 0 ∧ (y.tmod 100 ≠ 0 ∨ y.tmod 400 = 0)) from fun h => h3 h.1)]
    rcases (by omega : m = 1 ∨ m = 3 ∨ m = 4 ∨ m = 5 ∨ m = 6 ∨ m = 7 ∨ m = 8 ∨ m = 9 ∨ m = 10 ∨ m = 11 ∨ m = 12) with h | h | h | h | h | h | h | h | h | h | h <;> subst h <;> rfl
theorem days_month {y m : Int} (h : 1 ≤ days y m) : 1 ≤ m ∧ m ≤ 12 := by
  unfold days at h
  by_cases c : m < 1 ∨ 12 < m
  · rw [if_pos c] at h; exact absurd h (by decide)
  · omega
theorem right_is (n : Nat) (x : Stm × Unit) : ref17_Right.f n x = some (decide (StOk x.1), ()) := by
  obtain ⟨t, u⟩ := x
  refine (ref17_Right.eq n t).trans ?_
  show _ = some (decide (StOk t), ())
  have hd : ref17_Days.f n (t.1, t.2.1, ()) = some (days t.1 t.2.1, ()) := rdays_is n (t.1, t.2.1, ())
  by_cases hk : StOk t
  · rw [decide_eq_true hk]
    obtain ⟨⟨a1, a2⟩, b, ⟨c1, c2⟩, ⟨d1, d2⟩, ⟨e1, e2⟩, ⟨f1, f2⟩, g⟩ := hk
    rw [if_neg (by simp; omega), if_neg (by simp; omega), if_neg (by simp; omega), hd, Option.bind_some, if_neg (by simp; omega), if_pos (by simp; omega), if_pos (by simp; omega), if_pos (by simp; omega), if_pos (by simp; omega), if_pos (by simp; omega), if_pos (by simp; omega), g]
    rfl
  · rw [decide_eq_false hk]
    by_cases a1 : t.1 < 1980
    · rw [if_pos (by simpa using a1)]
    rw [if_neg (by simpa using a1)]
    by_cases a2 : t.1 > 2107
    · rw [if_pos (by simpa using a2)]
    rw [if_neg (by simpa using a2)]
    by_cases a3 : t.2.2.1 < 1
    · rw [if_pos (by simpa using a3)]
    rw [if_neg (by simpa using a3), hd, Option.bind_some]
    by_cases a4 : t.2.2.1 > days t.1 t.2.1
    · rw [if_pos (by simpa using a4)]
    rw [if_neg (by simpa using a4)]
    by_cases a5 : ¬ (t.2.2.2.1 ≥ 0)
    · rw [if_neg (by simpa using a5)]
    have a5 := Decidable.of_not_not a5
    rw [if_pos (by simpa using a5)]
    by_cases a6 : ¬ (t.2.2.2.1 ≤ 23)
    · rw [if_neg (by simpa using a6)]
    have a6 := Decidable.of_not_not a6
    rw [if_pos (by simpa using a6)]
    by_cases a7 : ¬ (t.2.2.2.2.1 ≥ 0)
    · rw [if_neg (by simpa using a7)]
    have a7 := Decidable.of_not_not a7
    rw [if_pos (by simpa using a7)]
    by_cases a8 : ¬ (t.2.2.2.2.1 ≤ 59)
    · rw [if_neg (by simpa using a8)]
    have a8 := Decidable.of_not_not a8
    rw [if_pos (by simpa using a8)]
    by_cases a9 : ¬ (t.2.2.2.2.2.1 ≥ 0)
    · rw [if_neg (by simpa using a9)]
    have a9 := Decidable.of_not_not a9
    rw [if_pos (by simpa using a9)]
    by_cases a10 : ¬ (t.2.2.2.2.2.1 ≤ 58)
    · rw [if_neg (by simpa using a10)]
    have a10 := Decidable.of_not_not a10
    rw [if_pos (by simpa using a10)]
    have hm := days_month (y := t.1) (m := t.2.1) (by omega)
    have a11 : ¬ t.2.2.2.2.2.1.tmod 2 = 0 := fun g => hk ⟨⟨by omega, by omega⟩, hm, ⟨by omega, by omega⟩, ⟨a5, a6⟩, ⟨a7, a8⟩, ⟨a9, a10⟩, g⟩
    have : (t.2.2.2.2.2.1.tmod 2 == 0) = false := by simpa using a11
    rw [this]
theorem rcheck_is {n : Nat} (hn : 1000 ≤ n) (x : Hdr × Unit) : ref18_Check.f n x = some (chkV n x.1, ()) := by
  obtain ⟨h, u⟩ := x
  refine (ref18_Check.eq n h).trans ?_
  simp only [right_is, rname_is hn, Option.bind_some]
  unfold chkV
  by_cases h1 : h.1 = 0 <;> by_cases h2 : h.1 = 8 <;> by_cases h3 : StOk h.2.1 <;> simp [h1, h2, h3]
/-- the document's bytes of any header -/
def rN (h : Hdr) (m T D : Int) : List (Nat × Int) := if grt h then hdL 45 m T D h.2.2.1 4294967295 4294967295 (h.2.2.2.2.2.1.size : Int) 20 else hdL 20 m T D h.2.2.1 h.2.2.2.1 h.2.2.2.2.1 (h.2.2.2.2.2.1.size : Int) 0
def rB (h : Hdr) (m T D : Int) : List Int := les (rN h m T D) ++ (sbytes h.2.2.2.2.2.1 ++ mrB h)
theorem wru64_range (x : Int) : 0 ≤ wr .u64 x ∧ wr .u64 x < 18446744073709551616 := by rw [wru64_mod]; omega
theorem rN_len (h : Hdr) (m T D : Int) : (les (rN h m T D)).length = 30 := by unfold rN; split <;> rfl
theorem rB_len (h : Hdr) (m T D : Int) : (rB h m T D).length = 30 + h.2.2.2.2.2.1.size + if grt h then 20 else 0 := by
  unfold rB
  rw [List.length_append, List.length_append, rN_len, mrB_len, sbytes_len]; omega
theorem rpack_ok (n : Nat) {t : Stm} (h : StOk t) : ref17_Pack.f n (t, ()) = some (dateN t, timeN t, ()) := by
  obtain ⟨p1, p2, p3, p4, _⟩ := h.nums
  obtain ⟨h1, h2, h3, h4, h5, h6, h7⟩ := h
  have h8 := days_le t.1 t.2.1
  have e2 : t.2.2.2.2.2.1.tdiv 2 = t.2.2.2.2.2.1 / 2 := Int.tdiv_eq_ediv_of_nonneg h6.1
  rw [ref17_Pack.eq, e2, wr64 (x := t.1 - 1980) (by omega) (by omega), wr64 (x := (t.1 - 1980) * 512) (by omega) (by omega), wr64 (x := t.2.1 * 32) (by omega) (by omega), wr64 (x := (t.1 - 1980) * 512 + t.2.1 * 32) (by omega) (by omega), wr64 (x := (t.1 - 1980) * 512 + t.2.1 * 32 + t.2.2.1) (by omega) (by omega),
    wr64 (x := t.2.2.2.1 * 2048) (by omega) (by omega), wr64 (x := t.2.2.2.2.1 * 32) (by omega) (by omega), wr64 (x := t.2.2.2.1 * 2048 + t.2.2.2.2.1 * 32) (by omega) (by omega), wr64 (x := t.2.2.2.2.2.1 / 2) (by omega) (by omega), wr64 (x := t.2.2.2.1 * 2048 + t.2.2.2.2.1 * 32 + t.2.2.2.2.2.1 / 2) (by omega) (by omega)]
  rfl
end Go.Proofs.YtcnegcjjeakmmaaDoor.Vm

namespace Go.Proofs.YtcnegcjjeakmmaaDoor.Vm
open Go Go.RowKit
set_option linter.unusedVariables false
set_option linter.unusedSimpArgs false
set_option maxRecDepth 100000
section
variable {n : Nat} (hn : 1000 ≤ n) {b : List Int} (hb : By b) (hl : b.length ≤ 1000000)
include hn hb hl
end
theorem le2_at {b : List Int} (hb : By b) {i : Nat} (h : i + 2 ≤ b.length) : le 2 (gt b i 2) = [b.getD i 0, b.getD (i + 1) 0] := by
  have hlen : ((b.drop i).take 2).length = 2 := by rw [List.length_take, List.length_drop]; omega
  have h1 := le_ge ((hb.drop i).take 2)
  rw [hlen] at h1
  refine h1.trans ?_
  rw [List.drop_eq_getElem_cons (by omega), List.drop_eq_getElem_cons (by omega), getD_eq (by omega), getD_eq (by omega)]
  rfl
theorem runpack_is (n : Nat) (d m : Int) (hd : 0 ≤ d) (hd' : d < 65536) (hm : 0 ≤ m) (hm' : m < 65536) : ref17_Unpack.f n (d, m, ()) = some (if StOk (unS d m) then unS d m else zS, decide (StOk (unS d m)), ()) := by
  refine (ref17_Unpack.eq n d m).trans ?_
  have e1 : d.tdiv 512 = d / 512 := Int.tdiv_eq_ediv_of_nonneg hd
  have e2 : d.tdiv 32 = d / 32 := Int.tdiv_eq_ediv_of_nonneg hd
  have e3 : d.tmod 32 = d % 32 := Int.tmod_eq_emod_of_nonneg hd
  have e4 : m.tdiv 2048 = m / 2048 := Int.tdiv_eq_ediv_of_nonneg hm
  have e5 : m.tdiv 32 = m / 32 := Int.tdiv_eq_ediv_of_nonneg hm
  have e6 : m.tmod 32 = m % 32 := Int.tmod_eq_emod_of_nonneg hm
  have e7 : (d / 32).tmod 16 = d / 32 % 16 := Int.tmod_eq_emod_of_nonneg (by omega)
  have e8 : (m / 32).tmod 64 = m / 32 % 64 := Int.tmod_eq_emod_of_nonneg (by omega)
  rw [wr64 (x := d) (by omega) (by omega), wr64 (x := m) (by omega) (by omega), e1, e2, e3, e4, e5, e6, wr64 (x := d / 512) (by omega) (by omega), wr64 (x := d / 32) (by omega) (by omega), wr64 (x := m / 2048) (by omega) (by omega), wr64 (x := m / 32) (by omega) (by omega), e7, e8, wr64 (x := 1980 + d / 512) (by omega) (by omega), wr64 (x := 2 * (m % 32)) (by omega) (by omega), Int.mul_comm 2 (m % 32)]
  show (ref17_Right.f n (unS d m, ())).bind (fun y1 => if (!y1.1) = true then some (zS, false, ()) else some (unS d m, true, ())) = _
  rw [right_is, Option.bind_some]
  by_cases h : StOk (unS d m)
  · rw [if_neg (by simp [h]), if_pos h, decide_eq_true h]
  · rw [if_pos (by simp [h]), if_neg h, decide_eq_false h]
theorem rpack_any (n : Nat) (t : Stm) : ∃ d m, ref17_Pack.f n (t, ()) = some (d, m, ()) := ⟨_, _, ref17_Pack.eq n t⟩
/-- what is laid over the document's bytes -/
theorem set_is {b : List Int} (hb : By b) (h30 : 30 ≤ b.length) (h : Hdr) (m T D : Int) : ((((((rB h m T D).set 8 (b.getD 8 0)).set 9 (b.getD 9 0)).set 10 (b.getD 10 0)).set 11 (b.getD 11 0)).set 12 (b.getD 12 0)).set 13 (b.getD 13 0) = rB h (gt b 8 2) (gt b 10 2) (gt b 12 2) := by
  have e8 := le2_at hb (i := 8) (by omega)
  have e10 := le2_at hb (i := 10) (by omega)
  have e12 := le2_at hb (i := 12) (by omega)
  unfold rB rN
  split
  · have : les (hdL 45 (gt b 8 2) (gt b 10 2) (gt b 12 2) h.2.2.1 4294967295 4294967295 (h.2.2.2.2.2.1.size : Int) 20) = le 4 67324752 ++ (le 2 45 ++ (le 2 2048 ++ (le 2 (gt b 8 2) ++ (le 2 (gt b 10 2) ++ (le 2 (gt b 12 2) ++ les [(4, h.2.2.1), (4, 4294967295), (4, 4294967295), (2, (h.2.2.2.2.2.1.size : Int)), (2, 20)]))))) := rfl
    rw [this, e8, e10, e12]
    rfl
  · have : les (hdL 20 (gt b 8 2) (gt b 10 2) (gt b 12 2) h.2.2.1 h.2.2.2.1 h.2.2.2.2.1 (h.2.2.2.2.2.1.size : Int) 0) = le 4 67324752 ++ (le 2 20 ++ (le 2 2048 ++ (le 2 (gt b 8 2) ++ (le 2 (gt b 10 2) ++ (le 2 (gt b 12 2) ++ les [(4, h.2.2.1), (4, h.2.2.2.1), (4, h.2.2.2.2.1), (2, (h.2.2.2.2.2.1.size : Int)), (2, 0)]))))) := rfl
    rw [this, e8, e10, e12]
    rfl
/-- The bytes are these again just if all is as it must be. -/
theorem same_iff {b : List Int} (hb : By b) (h30 : 30 ≤ b.length) (h : Hdr) (h0 : gt b 0 4 = 67324752) (hlen : 30 + gt b 26 2 + gt b 28 2 ≤ b.length) (he : gt b 28 2 = 0 ∨ gt b 28 2 = 20) (hsu : h.2.2.1 = gt b 14 4) (hnm : h.2.2.2.2.2.1 = strOf (nmB b))
    (hps : (gt b 28 2 = 20 ∧ h.2.2.2.1 = gt b (42 + nlN b) 8 ∧ h.2.2.2.2.1 = gt b (34 + nlN b) 8) ∨ (gt b 28 2 ≠ 20 ∧ h.2.2.2.1 = gt b 18 4 ∧ h.2.2.2.2.1 = gt b 22 4)) :
    rB h (gt b 8 2) (gt b 10 2) (gt b 12 2) = b.take (30 + gt b 26 2 + gt b 28 2).toNat ↔ (mrV b = some (h.2.2.2.1, h.2.2.2.2.1) ∧ gt b 6 2 = 2048) := by
  have r4 := gt2 hb 4
  have r8 := gt2 hb 8
  have r10 := gt2 hb 10
  have r12 := gt2 hb 12
  have r14 := gt4 hb 14
  have r18 := gt4 hb 18
  have r22 := gt4 hb 22
  have r26 := gt2 hb 26
  have r28 := gt2 hb 28
  have q1 := gt8 hb (42 + nlN b)
  have q2 := gt8 hb (34 + nlN b)
  have hN : (nlN b : Int) = gt b 26 2 := by unfold nlN; omega
  have hnl : (nmB b).length = nlN b := by unfold nmB; rw [List.length_take, List.length_drop]; omega
  have hnb : By (nmB b) := (hb.drop 30).take _
  have hsz : (h.2.2.2.2.2.1.size : Int) = gt b 26 2 := by rw [hnm, str_size, hnl, hN]
  have hsb : sbytes h.2.2.2.2.2.1 = nmB b := by rw [hnm]; exact bytes_str hnb
  have hszN : h.2.2.2.2.2.1.size = nlN b := by omega
  have e30 := flds_is hb [4, 2, 2, 2, 2, 2, 4, 4, 4, 2, 2] 0 (by show 0 + 30 ≤ b.length; omega)
  have e30' : les [(4, gt b 0 4), (2, gt b 4 2), (2, gt b 6 2), (2, gt b 8 2), (2, gt b 10 2), (2, gt b 12 2), (4, gt b 14 4), (4, gt b 18 4), (4, gt b 22 4), (2, gt b 26 2), (2, gt b 28 2)] = b.take 30 := e30
  constructor
  · intro hS
    have g : ∀ i k : Nat, i + k ≤ 30 → gt (rB h (gt b 8 2) (gt b 10 2) (gt b 12 2)) i k = gt b i k := fun i k hik => by
      rw [hS]; exact gt_take b _ i k (by omega)
    unfold rB rN at g
    by_cases hg : grt h
    · rw [if_pos hg] at g
      have hL : HL 45 (gt b 8 2) (gt b 10 2) (gt b 12 2) h.2.2.1 4294967295 4294967295 (h.2.2.2.2.2.1.size : Int) 20 := ⟨by omega, r8, r10, r12, by omega, by omega, by omega, by omega, by omega⟩
      have g4 := (f4 hL (sbytes h.2.2.2.2.2.1 ++ mrB h)).symm.trans (g 4 2 (by decide))
      have g6 := (f6 hL (sbytes h.2.2.2.2.2.1 ++ mrB h)).symm.trans (g 6 2 (by decide))
      have g18 := (f18 hL (sbytes h.2.2.2.2.2.1 ++ mrB h)).symm.trans (g 18 4 (by decide))
      have g22 := (f22 hL (sbytes h.2.2.2.2.2.1 ++ mrB h)).symm.trans (g 22 4 (by decide))
      have g28 := (f28 hL (sbytes h.2.2.2.2.2.1 ++ mrB h)).symm.trans (g 28 2 (by decide))
      rcases hps with ⟨x1, x2, x3⟩ | ⟨x1, _, _⟩
      · have hA : rB h (gt b 8 2) (gt b 10 2) (gt b 12 2) = (les (rN h (gt b 8 2) (gt b 10 2) (gt b 12 2)) ++ sbytes h.2.2.2.2.2.1) ++ (les [(2, 1), (2, 16), (8, h.2.2.2.2.1), (8, h.2.2.2.1)] ++ []) := by
          unfold rB mrB; rw [if_pos hg, List.append_nil, List.append_assoc]
        have hAl : (les (rN h (gt b 8 2) (gt b 10 2) (gt b 12 2)) ++ sbytes h.2.2.2.2.2.1).length = 30 + nlN b := by rw [List.length_append, rN_len, sbytes_len, hszN]
        have sk : ∀ i k, 30 + nlN b + i + k ≤ 50 + nlN b → gt b (30 + nlN b + i) k = gt (les [(2, 1), (2, 16), (8, h.2.2.2.2.1), (8, h.2.2.2.1)] ++ []) i k := fun i k hik => by
          rw [← gt_take b (30 + gt b 26 2 + gt b 28 2).toNat (30 + nlN b + i) k (by omega), ← hS, hA, ← hAl]; exact gt_skip _ _ i k
        have t1 := (sk 0 2 (by omega)).trans (gt_field (pre := []) (x := 1) rfl rfl (by decide) (by decide))
        have t2 := (sk 2 2 (by omega)).trans (gt_field (pre := [(2, 1)]) (x := 16) rfl rfl (by decide) (by decide))
        rw [show 30 + nlN b + 0 = 30 + nlN b by omega] at t1
        rw [show 30 + nlN b + 2 = 32 + nlN b by omega] at t2
        refine ⟨?_, g6.symm⟩
        unfold mrV
        unfold grt at hg
        rw [if_neg (by omega), x2, x3, if_pos ⟨x1, g4.symm, g18.symm, g22.symm, t1, t2, by rw [← x2, ← x3]; exact hg⟩]
      · exact absurd g28.symm x1
    · rw [if_neg hg] at g
      have hng : h.2.2.2.1 < 4294967295 ∧ h.2.2.2.2.1 < 4294967295 := by unfold grt at hg; omega
      have hpos : 0 ≤ h.2.2.2.1 ∧ 0 ≤ h.2.2.2.2.1 := by rcases hps with ⟨_, x2, x3⟩ | ⟨_, x2, x3⟩ <;> omega
      have hL : HL 20 (gt b 8 2) (gt b 10 2) (gt b 12 2) h.2.2.1 h.2.2.2.1 h.2.2.2.2.1 (h.2.2.2.2.2.1.size : Int) 0 := ⟨by omega, r8, r10, r12, by omega, by omega, by omega, by omega, by omega⟩
      have g4 := (f4 hL (sbytes h.2.2.2.2.2.1 ++ mrB h)).symm.trans (g 4 2 (by decide))
      have g6 := (f6 hL (sbytes h.2.2.2.2.2.1 ++ mrB h)).symm.trans (g 6 2 (by decide))
      have g28 := (f28 hL (sbytes h.2.2.2.2.2.1 ++ mrB h)).symm.trans (g 28 2 (by decide))
      refine ⟨?_, g6.symm⟩
      unfold mrV
      rcases hps with ⟨x1, _, _⟩ | ⟨x1, x2, x3⟩
      · omega
      · rw [if_pos g28.symm, x2, x3, if_pos ⟨g4.symm, by omega, by omega⟩]
  · rintro ⟨hm, h6⟩
    unfold rB
    rw [hsb]
    unfold mrV at hm
    by_cases x0 : gt b 28 2 = 0
    · rw [if_pos x0] at hm
      split at hm
      · rename_i x1
        rcases hps with ⟨y1, _, _⟩ | ⟨_, y2, y3⟩
        · omega
        · have hg : ¬ grt h := by unfold grt; omega
          unfold rN mrB hdL
          rw [if_neg hg, if_neg hg, hsz, hsu, y2, y3]
          rw [h0, h6, x0, x1.1] at e30'
          refine (congrArg (· ++ (nmB b ++ [])) e30').trans ?_
          show b.take 30 ++ (nmB b ++ []) = _
          rw [List.append_nil, show (30 + gt b 26 2 + gt b 28 2).toNat = 30 + nlN b by omega, List.take_add]
          rfl
      · cases hm
    · rw [if_neg x0] at hm
      split at hm
      · rename_i x1
        obtain ⟨y1, y2, y3, y4, y5, y6, y7⟩ := x1
        rcases hps with ⟨_, w2, w3⟩ | ⟨w1, _, _⟩
        · have hg : grt h := by unfold grt; rw [w2, w3]; exact y7
          have e20 := flds_is hb [2, 2, 8, 8] (30 + nlN b) (by show 30 + nlN b + 20 ≤ b.length; omega)
          have e20' : les [(2, gt b (30 + nlN b) 2), (2, gt b (30 + nlN b + 2) 2), (8, gt b (30 + nlN b + 2 + 2) 8), (8, gt b (30 + nlN b + 2 + 2 + 8) 8)] = (b.drop (30 + nlN b)).take 20 := e20
          rw [show 30 + nlN b + 2 = 32 + nlN b by omega, show 32 + nlN b + 2 = 34 + nlN b by omega, show 34 + nlN b + 8 = 42 + nlN b by omega, y5, y6] at e20'
          unfold rN mrB hdL
          rw [if_pos hg, if_pos hg, hsz, hsu, w2, w3]
          rw [h0, h6, y1, y2, y3, y4] at e30'
          refine (congrArg (· ++ (nmB b ++ _)) e30').trans ?_
          show b.take 30 ++ (nmB b ++ les [(2, 1), (2, 16), (8, gt b (34 + nlN b) 8), (8, gt b (42 + nlN b) 8)]) = _
          rw [e20', show (30 + gt b 26 2 + gt b 28 2).toNat = 30 + nlN b + 20 by omega, List.take_add, List.take_add, List.append_assoc]
          rfl
        · exact absurd y1 w1
      · cases hm
end Go.Proofs.YtcnegcjjeakmmaaDoor.Vm

