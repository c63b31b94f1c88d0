/- Names: the document's runes and the program's. Conditions: as each theorem states them. -/
import Derived.Test.YtdbaglogmdkbpaaDoorK2
import Derived.Lib.DecodeN
import Derived.Lib.IndexLaws
import Derived.Lib.QuoteLoop
namespace Go.Proofs.YtdbaglogmdkbpaaDoor.Vm
open Go Go.RowKit
set_option linter.unusedVariables false
set_option linter.unusedSimpArgs false
set_option maxRecDepth 10000
/-- a string's byte -/
def bt (s : ByteArray) (i : Nat) : Nat := (s.get! i).toNat
theorem bt_lt (s : ByteArray) (i : Nat) : bt s i < 256 := (s.get! i).toNat_lt
theorem get_bt {s : ByteArray} {i : Nat} (h : i < s.size) : List.getD (sbytes s) i 0 = (bt s i : Int) := by
  have h2 : i < s.data.size := h
  have hl : i < s.data.toList.length := by simpa using h2
  unfold sbytes bt
  rw [List.getD_eq_getElem?_getD, List.getElem?_map, List.getElem?_eq_getElem hl]
  show (((s.data.toList[i]).toNat : Nat) : Int) = ((s.data[i]!).toNat : Int)
  rw [getElem!_pos s.data i h2, Array.getElem_toList]
def post (v least w : Int) : Int × Int := if v < least ∨ 1114111 < v ∨ (55296 ≤ v ∧ v ≤ 57343) then (-1, 1) else (v, w)
def cont (b : Nat) : Prop := 128 ≤ b ∧ b ≤ 191
instance (b : Nat) : Decidable (cont b) := by unfold cont; infer_instance
/-- the document's rune, out of four bytes -/
def refN (m b0 b1 b2 b3 : Nat) : Int × Int :=
  if b0 < 128 then ((b0 : Int), 1)
  else if b0 < 194 then (-1, 1)
  else if b0 ≤ 223 then (if 2 ≤ m ∧ cont b1 then post (64 * ((b0 : Int) - 192) + b1 - 128) 128 2 else (-1, 1))
  else if b0 ≤ 239 then (if 3 ≤ m ∧ cont b1 ∧ cont b2 then post (64 * (64 * ((b0 : Int) - 224) + b1 - 128) + b2 - 128) 2048 3 else (-1, 1))
  else if b0 ≤ 244 then (if 4 ≤ m ∧ cont b1 ∧ cont b2 ∧ cont b3 then post (64 * (64 * (64 * ((b0 : Int) - 240) + b1 - 128) + b2 - 128) + b3 - 128) 65536 4 else (-1, 1))
  else (-1, 1)
section
variable {n m k : Nat} {s : ByteArray} {i : Nat} {N least v : Int} {j : Nat}
theorem rl_ok (hs : s.size ≤ 1000000) (hj : (j : Int) < N) (hi : i + j < s.size) (hv : 0 ≤ v ∧ v ≤ 1000000000) (hc : cont (bt s (i + j))) : ref16_Rune.l0 n m (k + 1) (s, (i : Int), N, least, v, (j : Int), ()) = ref16_Rune.l0 n m k (s, (i : Int), N, least, 64 * v + (bt s (i + j) : Int) - 128, ((j + 1 : Nat) : Int), ()) := by
  have hb := bt_lt s (i + j)
  unfold cont at hc
  have e1 : wr .i64 ((i : Int) + (j : Int)) = ((i + j : Nat) : Int) := by rw [wr64 (by omega) (by omega)]; omega
  have e2 : wr .i64 (64 * v) = 64 * v := wr64 (by omega) (by omega)
  have e3 : wr .i64 (bt s (i + j) : Int) = (bt s (i + j) : Int) := wr64 (by omega) (by omega)
  have e4 : wr .i64 (64 * v + (bt s (i + j) : Int)) = 64 * v + (bt s (i + j) : Int) := wr64 (by omega) (by omega)
  have e5 : wr .i64 (64 * v + (bt s (i + j) : Int) - 128) = 64 * v + (bt s (i + j) : Int) - 128 := wr64 (by omega) (by omega)
  have e6 : wr .i64 ((j : Int) + 1) = ((j + 1 : Nat) : Int) := by rw [wr64 (by omega) (by omega)]; omega
  rw [ref16_Rune.l0_eq, if_pos (by simpa using hj), e1, if_pos (by omega), if_pos (by omega), Int.toNat_natCast, get_bt hi, e3, if_neg (by simp; omega), if_neg (by simp; omega), e2, e4, e5, e6]
theorem rl_bad (hs : s.size ≤ 1000000) (hj : (j : Int) < N) (hi : i + j < s.size) (hc : ¬ cont (bt s (i + j))) : ref16_Rune.l0 n m (k + 1) (s, (i : Int), N, least, v, (j : Int), ()) = some (Sum.inl (-1, 1, ())) := by
  have hb := bt_lt s (i + j)
  unfold cont at hc
  have e1 : wr .i64 ((i : Int) + (j : Int)) = ((i + j : Nat) : Int) := by rw [wr64 (by omega) (by omega)]; omega
  have e3 : wr .i64 (bt s (i + j) : Int) = (bt s (i + j) : Int) := wr64 (by omega) (by omega)
  rw [ref16_Rune.l0_eq, if_pos (by simpa using hj), e1, if_pos (by omega), if_pos (by omega), Int.toNat_natCast, get_bt hi, e3]
  by_cases h : bt s (i + j) < 128
  · rw [if_pos (by simp; omega)]
  · rw [if_neg (by simp; omega), if_pos (by simp; omega)]
theorem rl_end (hj : (j : Int) = N) : ref16_Rune.l0 n m (k + 1) (s, (i : Int), N, least, v, (j : Int), ()) = some (Sum.inr (N, least, v, ())) := by
  rw [ref16_Rune.l0_eq, if_neg (by simp; omega)]
end
theorem post_is (v least w : Int) : (if (decide (v < least)) = true then (some (((-1) : Int), (1 : Int), ())) else (if (decide (v > (1114111 : Int))) = true then (some (((-1) : Int), (1 : Int), ())) else (if (decide (v ≥ (55296 : Int))) = true then (if (decide (v ≤ (57343 : Int))) = true then (some (((-1) : Int), (1 : Int), ())) else (some (v, w, ()))) else (some (v, w, ()))))) = some ((post v least w).1, (post v least w).2, ()) := by
  unfold post
  by_cases h1 : v < least
  · simp [h1]
  · by_cases h2 : v > 1114111
    · simp [h1, h2]
    · by_cases h3 : v ≥ 55296 <;> by_cases h4 : v ≤ 57343 <;> simp [h1, h2, h3, h4]
theorem rune_is {n : Nat} (hn : 1000 ≤ n) {s : ByteArray} (hs : s.size ≤ 1000000) {i : Nat} (h : i < s.size) : ref16_Rune.f n (s, (i : Int), ()) = some ((refN (s.size - i) (bt s i) (bt s (i + 1)) (bt s (i + 2)) (bt s (i + 3))).1, (refN (s.size - i) (bt s i) (bt s (i + 1)) (bt s (i + 2)) (bt s (i + 3))).2, ()) := by
  obtain ⟨k, rfl⟩ : ∃ k, n = k + 1 + 1 + 1 + 1 := ⟨n - 4, by omega⟩
  have hb := bt_lt s i
  have hb1 := bt_lt s (i + 1)
  have hb2 := bt_lt s (i + 2)
  have e0 : wr .i64 (bt s i : Int) = (bt s i : Int) := wr64 (by omega) (by omega)
  have e2 : wr .i64 ((i : Int) + 2) = (i : Int) + 2 := wr64 (by omega) (by omega)
  have e3 : wr .i64 ((i : Int) + 3) = (i : Int) + 3 := wr64 (by omega) (by omega)
  have e4 : wr .i64 ((i : Int) + 4) = (i : Int) + 4 := wr64 (by omega) (by omega)
  rw [ref16_Rune.eq, if_pos (by omega), if_pos (by omega), Int.toNat_natCast, get_bt h, e0]
  unfold refN
  by_cases c0 : bt s i < 128
  · rw [if_pos (by simp; omega), if_pos c0]
  rw [if_neg (by simp; omega), if_neg c0]
  by_cases c1 : bt s i < 194
  · rw [if_neg (by simp; omega), if_neg (by simp; omega), if_neg (by simp; omega), if_pos c1]
  rw [if_pos (by simp; omega), if_neg c1]
  by_cases c2 : bt s i ≤ 223
  · rw [if_pos (by simp; omega), if_pos c2, e2]
    by_cases d : i + 2 ≤ s.size
    · rw [if_neg (by simp; omega), wr64 (x := (bt s i : Int) - 192) (by omega) (by omega)]
      by_cases q1 : cont (bt s (i + 1))
      · have g1 := rl_ok (n := k + 1 + 1 + 1 + 1) (m := k + 1 + 1 + 1 + 1) (k := k + 1 + 1 + 1) (s := s) (i := i) (N := 2) (least := 128) (v := (bt s i : Int) - 192) (j := 1) hs (by decide) (by omega) (by omega) q1
        have g2 := rl_end (n := k + 1 + 1 + 1 + 1) (m := k + 1 + 1 + 1 + 1) (k := k + 1 + 1) (s := s) (i := i) (N := 2) (least := 128) (v := 64 * ((bt s i : Int) - 192) + (bt s (i + 1) : Int) - 128) (j := 2) rfl
        rw [if_pos ⟨by omega, q1⟩]
        refine (congrArg (Option.bind · _) (g1.trans g2)).trans ?_
        exact post_is _ 128 2
      · have g1 := rl_bad (n := k + 1 + 1 + 1 + 1) (m := k + 1 + 1 + 1 + 1) (k := k + 1 + 1 + 1) (s := s) (i := i) (N := 2) (least := 128) (v := (bt s i : Int) - 192) (j := 1) hs (by decide) (by omega) q1
        rw [if_neg (fun hh => q1 hh.2)]
        exact (congrArg (Option.bind · _) g1)
    · rw [if_pos (by simp; omega), if_neg (by omega)]
  rw [if_neg (by simp; omega), if_neg c2, if_pos (by simp; omega)]
  by_cases c3 : bt s i ≤ 239
  · rw [if_pos (by simp; omega), if_pos c3, e3]
    by_cases d : i + 3 ≤ s.size
    · rw [if_neg (by simp; omega), wr64 (x := (bt s i : Int) - 224) (by omega) (by omega)]
      by_cases q1 : cont (bt s (i + 1))
      · have g1 := rl_ok (n := k + 1 + 1 + 1 + 1) (m := k + 1 + 1 + 1 + 1) (k := k + 1 + 1 + 1) (s := s) (i := i) (N := 3) (least := 2048) (v := (bt s i : Int) - 224) (j := 1) hs (by decide) (by omega) (by omega) q1
        have q1' := q1
        unfold cont at q1'
        by_cases q2 : cont (bt s (i + 2))
        · have g2 := rl_ok (n := k + 1 + 1 + 1 + 1) (m := k + 1 + 1 + 1 + 1) (k := k + 1 + 1) (s := s) (i := i) (N := 3) (least := 2048) (v := 64 * ((bt s i : Int) - 224) + (bt s (i + 1) : Int) - 128) (j := 2) hs (by decide) (by omega) (by omega) q2
          have g3 := rl_end (n := k + 1 + 1 + 1 + 1) (m := k + 1 + 1 + 1 + 1) (k := k + 1) (s := s) (i := i) (N := 3) (least := 2048) (v := 64 * (64 * ((bt s i : Int) - 224) + (bt s (i + 1) : Int) - 128) + (bt s (i + 2) : Int) - 128) (j := 3) rfl
          rw [if_pos ⟨by omega, q1, q2⟩]
          refine (congrArg (Option.bind · _) (g1.trans (g2.trans g3))).trans ?_
          exact post_is _ 2048 3
        · have g2 := rl_bad (n := k + 1 + 1 + 1 + 1) (m := k + 1 + 1 + 1 + 1) (k := k + 1 + 1) (s := s) (i := i) (N := 3) (least := 2048) (v := 64 * ((bt s i : Int) - 224) + (bt s (i + 1) : Int) - 128) (j := 2) hs (by decide) (by omega) q2
          rw [if_neg (fun hh => q2 hh.2.2)]
          exact (congrArg (Option.bind · _) (g1.trans g2))
      · have g1 := rl_bad (n := k + 1 + 1 + 1 + 1) (m := k + 1 + 1 + 1 + 1) (k := k + 1 + 1 + 1) (s := s) (i := i) (N := 3) (least := 2048) (v := (bt s i : Int) - 224) (j := 1) hs (by decide) (by omega) q1
        rw [if_neg (fun hh => q1 hh.2.1)]
        exact (congrArg (Option.bind · _) g1)
    · rw [if_pos (by simp; omega), if_neg (by omega)]
  rw [if_neg (by simp; omega), if_neg c3, if_pos (by simp; omega)]
  by_cases c4 : bt s i ≤ 244
  · rw [if_pos (by simp; omega), if_pos c4, e4]
    by_cases d : i + 4 ≤ s.size
    · rw [if_neg (by simp; omega), wr64 (x := (bt s i : Int) - 240) (by omega) (by omega)]
      by_cases q1 : cont (bt s (i + 1))
      · have g1 := rl_ok (n := k + 1 + 1 + 1 + 1) (m := k + 1 + 1 + 1 + 1) (k := k + 1 + 1 + 1) (s := s) (i := i) (N := 4) (least := 65536) (v := (bt s i : Int) - 240) (j := 1) hs (by decide) (by omega) (by omega) q1
        have q1' := q1
        unfold cont at q1'
        by_cases q2 : cont (bt s (i + 2))
        · have g2 := rl_ok (n := k + 1 + 1 + 1 + 1) (m := k + 1 + 1 + 1 + 1) (k := k + 1 + 1) (s := s) (i := i) (N := 4) (least := 65536) (v := 64 * ((bt s i : Int) - 240) + (bt s (i + 1) : Int) - 128) (j := 2) hs (by decide) (by omega) (by omega) q2
          have q2' := q2
          unfold cont at q2'
          by_cases q3 : cont (bt s (i + 3))
          · have g3 := rl_ok (n := k + 1 + 1 + 1 + 1) (m := k + 1 + 1 + 1 + 1) (k := k + 1) (s := s) (i := i) (N := 4) (least := 65536) (v := 64 * (64 * ((bt s i : Int) - 240) + (bt s (i + 1) : Int) - 128) + (bt s (i + 2) : Int) - 128) (j := 3) hs (by decide) (by omega) (by omega) q3
            have g4 := rl_end (n := k + 1 + 1 + 1 + 1) (m := k + 1 + 1 + 1 + 1) (k := k) (s := s) (i := i) (N := 4) (least := 65536) (v := 64 * (64 * (64 * ((bt s i : Int) - 240) + (bt s (i + 1) : Int) - 128) + (bt s (i + 2) : Int) - 128) + (bt s (i + 3) : Int) - 128) (j := 4) rfl
            rw [if_pos ⟨by omega, q1, q2, q3⟩]
            refine (congrArg (Option.bind · _) (g1.trans (g2.trans (g3.trans g4)))).trans ?_
            exact post_is _ 65536 4
          · have g3 := rl_bad (n := k + 1 + 1 + 1 + 1) (m := k + 1 + 1 + 1 + 1) (k := k + 1) (s := s) (i := i) (N := 4) (least := 65536) (v := 64 * (64 * ((bt s i : Int) - 240) + (bt s (i + 1) : Int) - 128) + (bt s (i + 2) : Int) - 128) (j := 3) hs (by decide) (by omega) q3
            rw [if_neg (fun hh => q3 hh.2.2.2)]
            exact (congrArg (Option.bind · _) (g1.trans (g2.trans g3)))
        · have g2 := rl_bad (n := k + 1 + 1 + 1 + 1) (m := k + 1 + 1 + 1 + 1) (k := k + 1 + 1) (s := s) (i := i) (N := 4) (least := 65536) (v := 64 * ((bt s i : Int) - 240) + (bt s (i + 1) : Int) - 128) (j := 2) hs (by decide) (by omega) q2
          rw [if_neg (fun hh => q2 hh.2.2.1)]
          exact (congrArg (Option.bind · _) (g1.trans g2))
      · have g1 := rl_bad (n := k + 1 + 1 + 1 + 1) (m := k + 1 + 1 + 1 + 1) (k := k + 1 + 1 + 1) (s := s) (i := i) (N := 4) (least := 65536) (v := (bt s i : Int) - 240) (j := 1) hs (by decide) (by omega) q1
        rw [if_neg (fun hh => q1 hh.2.1)]
        exact (congrArg (Option.bind · _) g1)
    · rw [if_pos (by simp; omega), if_neg (by omega)]
  rw [if_neg (by simp; omega), if_neg c4]
/-- may the document's rune stand there? -/
def okR (v : Int) : Bool := !(decide (v < 32) || (decide (127 ≤ v) && decide (v ≤ 159)) || v == 92 || v == 58 || v == 65533)
theorem mayV_iff (v : Int) : mayV v = true ↔ 32 ≤ v ∧ (v < 127 ∨ 159 < v) ∧ v ≠ 92 ∧ v ≠ 58 ∧ v ≠ 65533 := by
  unfold mayV
  simp only [Bool.and_eq_true, Bool.or_eq_true, decide_eq_true_eq, bne_iff_ne]
  omega
theorem okR_iff (v : Int) : okR v = true ↔ 32 ≤ v ∧ (v < 127 ∨ 159 < v) ∧ v ≠ 92 ∧ v ≠ 58 ∧ v ≠ 65533 := by
  unfold okR
  simp only [Bool.not_eq_true', Bool.or_eq_false_iff, Bool.and_eq_false_iff, decide_eq_false_iff_not, beq_eq_false_iff_ne]
  omega
theorem may_ok (v : Int) : okR v = mayV v := by
  rw [Bool.eq_iff_iff, okR_iff, mayV_iff]
/-- Both read the same rune, or none that may stand there. -/
theorem rune_same (m b0 b1 b2 b3 : Nat) (h0 : b0 < 256) (h1 : b1 < 256) (h2 : b2 < 256) (h3 : b3 < 256) : (refN m b0 b1 b2 b3 = (((Lib.decodeN m b0 b1 b2 b3).1 : Int), ((Lib.decodeN m b0 b1 b2 b3).2 : Int))) ∨ (refN m b0 b1 b2 b3 = (-1, 1) ∧ Lib.decodeN m b0 b1 b2 b3 = (65533, 1)) := by
  unfold refN Lib.decodeN post cont
  by_cases c0 : b0 < 128
  · rw [if_pos c0, if_pos c0]; exact .inl rfl
  rw [if_neg c0, if_neg c0]
  by_cases c1 : b0 < 194
  · rw [if_pos c1]
    refine .inr ⟨rfl, ?_⟩
    rw [if_neg (show ¬ (b0 / 16 = 14 ∧ _) by omega), if_neg (show ¬ (b0 / 8 = 30 ∧ _) by omega)]
    split
    · rw [if_neg (by omega)]
    · rfl
  rw [if_neg c1]
  by_cases c2 : b0 ≤ 223
  · rw [if_pos c2, if_neg (show ¬ (b0 / 16 = 14 ∧ _) by omega), if_neg (show ¬ (b0 / 8 = 30 ∧ _) by omega)]
    by_cases d : 2 ≤ m ∧ 128 ≤ b1 ∧ b1 ≤ 191
    · rw [if_pos d, if_neg (by omega), if_pos (by omega), if_pos (by omega)]
      left
      simp only [Prod.mk.injEq]
      omega
    · rw [if_neg d, if_neg (by omega)]; exact .inr ⟨rfl, rfl⟩
  rw [if_neg c2, if_neg (show ¬ (b0 / 32 = 6 ∧ _) by omega)]
  by_cases c3 : b0 ≤ 239
  · rw [if_pos c3, if_neg (show ¬ (b0 / 8 = 30 ∧ _) by omega)]
    by_cases d : 3 ≤ m ∧ (128 ≤ b1 ∧ b1 ≤ 191) ∧ (128 ≤ b2 ∧ b2 ≤ 191)
    · rw [if_pos d]
      split
      · rw [if_pos (by omega), if_neg (by omega)]
        exact .inr ⟨rfl, rfl⟩
      · rw [if_pos (by omega), if_pos (by omega)]
        left
        simp only [Prod.mk.injEq]
        omega
    · rw [if_neg d, if_neg (by omega)]; exact .inr ⟨rfl, rfl⟩
  rw [if_neg c3, if_neg (show ¬ (b0 / 16 = 14 ∧ _) by omega)]
  by_cases c4 : b0 ≤ 244
  · rw [if_pos c4]
    by_cases d : 4 ≤ m ∧ (128 ≤ b1 ∧ b1 ≤ 191) ∧ (128 ≤ b2 ∧ b2 ≤ 191) ∧ (128 ≤ b3 ∧ b3 ≤ 191)
    · rw [if_pos d]
      split
      · rw [if_pos (by omega), if_neg (by omega)]
        exact .inr ⟨rfl, rfl⟩
      · rw [if_pos (by omega), if_pos (by omega)]
        left
        simp only [Prod.mk.injEq]
        omega
    · rw [if_neg d, if_neg (by omega)]; exact .inr ⟨rfl, rfl⟩
  rw [if_neg c4]
  refine .inr ⟨rfl, ?_⟩
  split
  · rw [if_neg (by omega)]
  · rfl
end Go.Proofs.YtdbaglogmdkbpaaDoor.Vm
