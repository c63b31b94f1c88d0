/- The reader; headers: what is parsed. Conditions: as each theorem states them. -/
import Derived.Test.YtdbaglogmdkbpaaDoorK3
namespace Go.Proofs.YtdbaglogmdkbpaaDoor.Vm
open Go Go.RowKit
set_option linter.unusedVariables false
set_option linter.unusedSimpArgs false
set_option maxRecDepth 10000
/-- the number of so many bytes at a place -/
def gt (b : List Int) (i k : Nat) : Int := ge ((b.drop i).take k)
theorem gt_range {b : List Int} (hb : By b) (i k : Nat) : 0 ≤ gt b i k ∧ gt b i k < 256 ^ k := by
  have h1 := ge_lt ((hb.drop i).take k)
  refine ⟨ge_nonneg ((hb.drop i).take k), Int.lt_of_lt_of_le h1 ?_⟩
  have : 256 ^ ((b.drop i).take k).length ≤ 256 ^ k := Nat.pow_le_pow_right (by decide) (by rw [List.length_take]; omega)
  have h2 : (((256 ^ ((b.drop i).take k).length : Nat)) : Int) ≤ ((256 ^ k : Nat) : Int) := Int.ofNat_le.2 this
  simpa using h2
theorem gt2 {b : List Int} (hb : By b) (i : Nat) : 0 ≤ gt b i 2 ∧ gt b i 2 < 65536 := gt_range hb i 2
theorem gt4 {b : List Int} (hb : By b) (i : Nat) : 0 ≤ gt b i 4 ∧ gt b i 4 < 4294967296 := gt_range hb i 4
theorem gt8 {b : List Int} (hb : By b) (i : Nat) : 0 ≤ gt b i 8 ∧ gt b i 8 < 18446744073709551616 := gt_range hb i 8
theorem cut_is (b : List Int) (i k : Nat) : List.drop i (List.take (i + k) b) = (b.drop i).take k := by
  rw [List.drop_take, Nat.add_sub_cancel_left]
theorem bytes_ok {n : Nat} {b : List Int} (hl : b.length ≤ 1000000) {a k : Nat} (h : a + k ≤ b.length) : little_Reader_Bytes.f n ((b, (a : Int), false, ()), (k : Int), ()) = some ((b, ((a + k : Nat) : Int), false, ()), (b.drop a).take k, ()) := by
  have e1 : wr .i64 ((b.length : Int) - (a : Int)) = (b.length : Int) - a := wr64 (by omega) (by omega)
  have e2 : wr .i64 ((a : Int) + (k : Int)) = ((a + k : Nat) : Int) := by rw [wr64 (by omega) (by omega)]; omega
  have e3 : wr .i64 (((a + k : Nat) : Int) - (k : Int)) = (a : Int) := by rw [wr64 (by omega) (by omega)]; omega
  rw [little_Reader_Bytes.eq, if_neg (by decide), little_Reader_Left.eq, Option.bind_some, if_neg (show ¬ (k : Int) < 0 by omega)]
  simp only [e1, e2, e3]
  rw [if_neg (by simp; omega), if_pos (by omega), if_pos (by omega), if_pos (by omega), Int.toNat_natCast, Int.toNat_natCast, cut_is, clone_is n (by rw [List.length_take, List.length_drop]; omega), Option.bind_some]
theorem bytes_short {n : Nat} {b : List Int} (hl : b.length ≤ 1000000) {a k : Nat} (ha : a ≤ b.length) (hk : k ≤ 1000000) (h : b.length < a + k) : little_Reader_Bytes.f n ((b, (a : Int), false, ()), (k : Int), ()) = some ((b, (a : Int), true, ()), [], ()) := by
  have e1 : wr .i64 ((b.length : Int) - (a : Int)) = (b.length : Int) - a := wr64 (by omega) (by omega)
  rw [little_Reader_Bytes.eq, if_neg (by decide), little_Reader_Left.eq, Option.bind_some, if_neg (show ¬ (k : Int) < 0 by omega)]
  simp only [e1]
  rw [if_pos (by simp; omega)]
theorem bytes_sh (n : Nat) (b : List Int) (a k : Int) : little_Reader_Bytes.f n ((b, a, true, ()), k, ()) = some ((b, a, true, ()), [], ()) := by
  rw [little_Reader_Bytes.eq, if_pos rfl]
section
variable {n : Nat} (hn : 1000 ≤ n) {b : List Int} (hb : By b) (hl : b.length ≤ 1000000)
include hn hb hl
theorem num_ok {a k : Nat} (hk : k ≤ 8) (h : a + k ≤ b.length) : little_Reader_Num.f n ((b, (a : Int), false, ()), (k : Int), ()) = some ((b, ((a + k : Nat) : Int), false, ()), gt b a k, ()) := by
  rw [little_Reader_Num.eq, held_le _ (by omega) (by omega), Option.bind_some]
  show (little_Reader_Bytes.f n ((b, (a : Int), false, ()), (k : Int), ())).bind _ = _
  rw [bytes_ok hl h, Option.bind_some]
  show (little_Get.f n ((b.drop a).take k, ())).bind _ = _
  rw [get_is (by omega) ((hb.drop a).take k) (by rw [List.length_take]; omega), Option.bind_some]
  rfl
theorem num_any {a k : Nat} (s : Bool) (ha : a ≤ b.length) (hk : k ≤ 8) : ∃ (a' : Nat) (s' : Bool) (v : Int), little_Reader_Num.f n ((b, (a : Int), s, ()), (k : Int), ()) = some ((b, (a' : Int), s', ()), v, ()) ∧ a' ≤ b.length ∧ (s' = false → s = false ∧ a' = a + k) := by
  cases s with
  | true =>
    refine ⟨a, true, 0, ?_, ha, fun h => by cases h⟩
    rw [little_Reader_Num.eq, held_le _ (by omega) (by omega), Option.bind_some]
    show (little_Reader_Bytes.f n ((b, (a : Int), true, ()), (k : Int), ())).bind _ = _
    rw [bytes_sh, Option.bind_some]
    show (little_Get.f n ([], ())).bind _ = _
    rw [get_is (by omega) By.nil (by simp), Option.bind_some]
    rfl
  | false =>
    by_cases h : a + k ≤ b.length
    · exact ⟨a + k, false, _, num_ok hn hb hl hk h, h, fun _ => ⟨rfl, rfl⟩⟩
    · refine ⟨a, true, 0, ?_, ha, fun h => by cases h⟩
      rw [little_Reader_Num.eq, held_le _ (by omega) (by omega), Option.bind_some]
      show (little_Reader_Bytes.f n ((b, (a : Int), false, ()), (k : Int), ())).bind _ = _
      rw [bytes_short hl ha (by omega) (by omega), Option.bind_some]
      show (little_Get.f n ([], ())).bind _ = _
      rw [get_is (by omega) By.nil (by simp), Option.bind_some]
      rfl
theorem num_two {a : Nat} (h : a + 2 ≤ b.length) : little_Reader_Num.f n ((b, (a : Int), false, ()), 2, ()) = some ((b, ((a + 2 : Nat) : Int), false, ()), gt b a 2, ()) := num_ok hn hb hl (k := 2) (by decide) h
theorem num_four {a : Nat} (h : a + 4 ≤ b.length) : little_Reader_Num.f n ((b, (a : Int), false, ()), 4, ()) = some ((b, ((a + 4 : Nat) : Int), false, ()), gt b a 4, ()) := num_ok hn hb hl (k := 4) (by decide) h
theorem num_eight {a : Nat} (h : a + 8 ≤ b.length) : little_Reader_Num.f n ((b, (a : Int), false, ()), 8, ()) = some ((b, ((a + 8 : Nat) : Int), false, ()), gt b a 8, ()) := num_ok hn hb hl (k := 8) (by decide) h
theorem numbers_ok (h : 30 ≤ b.length) : local_numbers.f n ((b, (4 : Int), false, ()), ()) = some ((b, (30 : Int), false, ()), (gt b 4 2, gt b 6 2, gt b 8 2, gt b 10 2, gt b 12 2, gt b 14 4, gt b 18 4, gt b 22 4, gt b 26 2, gt b 28 2, ()), ()) := by
  rw [local_numbers.eq]
  have h4 := num_two hn hb hl (a := 4) (by omega)
  have h6 := num_two hn hb hl (a := 6) (by omega)
  have h8 := num_two hn hb hl (a := 8) (by omega)
  have h10 := num_two hn hb hl (a := 10) (by omega)
  have h12 := num_two hn hb hl (a := 12) (by omega)
  have h14 := num_four hn hb hl (a := 14) (by omega)
  have h18 := num_four hn hb hl (a := 18) (by omega)
  have h22 := num_four hn hb hl (a := 22) (by omega)
  have h26 := num_two hn hb hl (a := 26) (by omega)
  have h28 := num_two hn hb hl (a := 28) (by omega)
  refine (congrArg (Option.bind · _) h4).trans ?_
  rw [Option.bind_some]
  refine (congrArg (Option.bind · _) h6).trans ?_
  rw [Option.bind_some]
  refine (congrArg (Option.bind · _) h8).trans ?_
  rw [Option.bind_some]
  refine (congrArg (Option.bind · _) h10).trans ?_
  rw [Option.bind_some]
  refine (congrArg (Option.bind · _) h12).trans ?_
  rw [Option.bind_some]
  refine (congrArg (Option.bind · _) h14).trans ?_
  rw [Option.bind_some]
  refine (congrArg (Option.bind · _) h18).trans ?_
  rw [Option.bind_some]
  refine (congrArg (Option.bind · _) h22).trans ?_
  rw [Option.bind_some]
  refine (congrArg (Option.bind · _) h26).trans ?_
  rw [Option.bind_some]
  refine (congrArg (Option.bind · _) h28).trans ?_
  rw [Option.bind_some]
  rfl
theorem numbers_short (h4 : 4 ≤ b.length) (h : b.length < 30) : ∃ (a' : Nat) (x : Int × Int × Int × Int × Int × Int × Int × Int × Int × Int × Unit), local_numbers.f n ((b, (4 : Int), false, ()), ()) = some ((b, (a' : Int), true, ()), x, ()) := by
  obtain ⟨a1, s1, v1, e1, l1, i1⟩ := num_any hn hb hl (a := 4) (k := 2) false h4 (by decide)
  obtain ⟨a2, s2, v2, e2, l2, i2⟩ := num_any hn hb hl (a := a1) (k := 2) s1 l1 (by decide)
  obtain ⟨a3, s3, v3, e3, l3, i3⟩ := num_any hn hb hl (a := a2) (k := 2) s2 l2 (by decide)
  obtain ⟨a4, s4, v4, e4, l4, i4⟩ := num_any hn hb hl (a := a3) (k := 2) s3 l3 (by decide)
  obtain ⟨a5, s5, v5, e5, l5, i5⟩ := num_any hn hb hl (a := a4) (k := 2) s4 l4 (by decide)
  obtain ⟨a6, s6, v6, e6, l6, i6⟩ := num_any hn hb hl (a := a5) (k := 4) s5 l5 (by decide)
  obtain ⟨a7, s7, v7, e7, l7, i7⟩ := num_any hn hb hl (a := a6) (k := 4) s6 l6 (by decide)
  obtain ⟨a8, s8, v8, e8, l8, i8⟩ := num_any hn hb hl (a := a7) (k := 4) s7 l7 (by decide)
  obtain ⟨a9, s9, v9, e9, l9, i9⟩ := num_any hn hb hl (a := a8) (k := 2) s8 l8 (by decide)
  obtain ⟨a0, s0, v0, e0, l0, i0⟩ := num_any hn hb hl (a := a9) (k := 2) s9 l9 (by decide)
  have hs : s0 = true := by
    cases hs : s0 with
    | true => rfl
    | false =>
      obtain ⟨j0, k0⟩ := i0 hs
      obtain ⟨j9, k9⟩ := i9 j0
      obtain ⟨j8, k8⟩ := i8 j9
      obtain ⟨j7, k7⟩ := i7 j8
      obtain ⟨j6, k6⟩ := i6 j7
      obtain ⟨j5, k5⟩ := i5 j6
      obtain ⟨j4, k4⟩ := i4 j5
      obtain ⟨j3, k3⟩ := i3 j4
      obtain ⟨j2, k2⟩ := i2 j3
      obtain ⟨j1, k1⟩ := i1 j2
      omega
  subst hs
  refine ⟨a0, (v1, v2, v3, v4, v5, v6, v7, v8, v9, v0, ()), ?_⟩
  rw [local_numbers.eq]
  refine (congrArg (Option.bind · _) e1).trans ?_
  rw [Option.bind_some]
  refine (congrArg (Option.bind · _) e2).trans ?_
  rw [Option.bind_some]
  refine (congrArg (Option.bind · _) e3).trans ?_
  rw [Option.bind_some]
  refine (congrArg (Option.bind · _) e4).trans ?_
  rw [Option.bind_some]
  refine (congrArg (Option.bind · _) e5).trans ?_
  rw [Option.bind_some]
  refine (congrArg (Option.bind · _) e6).trans ?_
  rw [Option.bind_some]
  refine (congrArg (Option.bind · _) e7).trans ?_
  rw [Option.bind_some]
  refine (congrArg (Option.bind · _) e8).trans ?_
  rw [Option.bind_some]
  refine (congrArg (Option.bind · _) e9).trans ?_
  rw [Option.bind_some]
  refine (congrArg (Option.bind · _) e0).trans ?_
  rw [Option.bind_some]
end
end Go.Proofs.YtdbaglogmdkbpaaDoor.Vm
