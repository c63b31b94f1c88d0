/- Layer 18: the laws without the document. Conditions: as each theorem states them. -/
import Derived.Test.YtdbaglogmdkbpaaDoorK6
namespace Go.Proofs.YtdbaglogmdkbpaaDoor.Vm
open Go Go.RowKit
set_option linter.unusedVariables false
set_option linter.unusedSimpArgs false
set_option maxRecDepth 100000
theorem alive18 : law18_alive.f 1000 () = some (true, ()) := by kernel_rfl
def Ki.noL : Ki → Bool
  | .list _ => false
  | .pair a b => a.noL && b.noL
  | _ => true
theorem toList_inj {a b : ByteArray} (h : a.toList = b.toList) : a = b := by
  rw [ByteArray.toList_eq, ByteArray.toList_eq] at h
  cases a; cases b
  congr 1
  exact Array.toList_inj.1 h
theorem eqB_iff : ∀ {k : Ki}, k.noL = true → ∀ x y : k.den, Ki.eqB k x y = true ↔ x = y
  | .int _, _, x, y => by show ((x : Int) == y) = true ↔ _; exact beq_iff_eq
  | .bool, _, x, y => by show ((x : Bool) == y) = true ↔ _; exact beq_iff_eq
  | .str, _, x, y => by
    show ((x : ByteArray).toList == (y : ByteArray).toList) = true ↔ _
    rw [beq_iff_eq]
    exact ⟨toList_inj, fun h => by rw [h]⟩
  | .unit, _, x, y => ⟨fun _ => rfl, fun _ => rfl⟩
  | .pair a b, h, x, y => by
    have h' : (a.noL && b.noL) = true := h
    rw [Bool.and_eq_true] at h'
    show (a.eqB x.1 y.1 && b.eqB x.2 y.2) = true ↔ x = y
    rw [Bool.and_eq_true, eqB_iff h'.1, eqB_iff h'.2]
    exact ⟨fun h => Prod.ext h.1 h.2, fun h => by rw [h]; exact ⟨rfl, rfl⟩⟩
theorem band1023 (x : Int) : 0 ≤ band .i64 x 1023 ∧ band .i64 x 1023 ≤ 1023 := by
  show 0 ≤ wr .i64 ((BitVec.ofInt 64 x &&& BitVec.ofInt 64 1023).toNat : Int) ∧ wr .i64 ((BitVec.ofInt 64 x &&& BitVec.ofInt 64 1023).toNat : Int) ≤ 1023
  have h : (BitVec.ofInt 64 x &&& BitVec.ofInt 64 1023).toNat ≤ 1023 := by
    rw [BitVec.toNat_and]
    exact Nat.and_le_right
  rw [wr64 (by omega) (by omega)]
  omega
theorem back_tail {b : List Int} (hb : By b) (hl : b.length ≤ 400) : (local_Parse.f 1000 (b, ())).bind (fun y22 => (if (y22.2.2.1 != (0 : Int)) = true then (if (y22.2.1 == (0 : Int)) = true then (some ((Ki.eqB (.pair (.int .i64) (.pair (.pair (.int .i64) (.pair (.int .i64) (.pair (.int .i64) (.pair (.int .i64) (.pair (.int .i64) (.pair (.int .i64) .unit)))))) (.pair (.int .u32) (.pair (.int .u64) (.pair (.int .u64) (.pair .str .unit)))))) y22.1 ((0 : Int), (((0 : Int), ((0 : Int), ((0 : Int), ((0 : Int), ((0 : Int), ((0 : Int), ())))))), ((0 : Int), ((0 : Int), ((0 : Int), (ByteArray.empty, ()))))))), ())) else (some (false, ()))) else (local_Write.f 1000 (y22.1, ())).bind (fun y23 => (if (y23.2.1 == (0 : Int)) = true then (if (decide (y22.2.1 ≤ ((List.length b : Nat) : Int))) = true then (if 0 ≤ y22.2.1 then (if y22.2.1 ≤ (((List.length b) : Nat) : Int) then (ref01_Same.f 1000 (y23.1, (List.drop 0 (List.take (Int.toNat y22.2.1) b)), ())).bind (fun y24 => (some (y24.1, ()))) else none) else none) else (some (false, ()))) else (some (false, ())))))) = some (true, ()) := by
  rw [parse_is (by decide) hb (by omega), Option.bind_some]
  by_cases he : (prV 1000 b).2.2.1 = 0
  · obtain ⟨⟨h, k, e, u⟩, hp⟩ : ∃ q, q = prV 1000 b := ⟨_, rfl⟩
    rw [← hp] at he ⊢
    obtain rfl : e = 0 := he
    obtain ⟨c1, c2, c3, c4, c5⟩ := write_parse hb (by omega) hp.symm
    have hw : (wB h).length ≤ 400 := by rw [c5, List.length_take]; omega
    rw [if_neg (show ¬ (((0 : Int) != 0) = true) by decide)]
    rw [lwrite_is (by decide) (by decide) h c2, Option.bind_some, if_pos c1, if_pos (show ((0 : Int) == 0) = true from rfl), if_pos (decide_eq_true c4), if_pos c3, if_pos c4]
    rw [same_is (by show (wB h).length < 1000; omega) (by decide), Option.bind_some, List.drop_zero, c5]
    simp
  · obtain ⟨h1, h2⟩ := parse_none he
    rw [if_pos (by simp [he]), h2, if_pos (show ((0 : Int) == 0) = true from rfl), h1]
    have := (eqB_iff (k := .pair (.int .i64) (.pair (.pair (.int .i64) (.pair (.int .i64) (.pair (.int .i64) (.pair (.int .i64) (.pair (.int .i64) (.pair (.int .i64) .unit)))))) (.pair (.int .u32) (.pair (.int .u64) (.pair (.int .u64) (.pair .str .unit)))))) rfl zH zH).2 rfl
    exact congrArg (fun c => some (c, ())) this
theorem localBack (h : Hdr) (hk : HdOk h) (more b : List Int) (cut : Int) (hm : By more) (hb : By b) : law18_LocalBack.f 1000 (h, more, b, cut, ()) = some (true, ()) := by
  rw [law18_LocalBack.eq, alive18, Option.bind_some, if_neg (show ¬ ((!true) = true) by decide)]
  by_cases h1 : h.2.2.2.2.2.1.size > 300
  · rw [if_pos (decide_eq_true (by omega))]
  rw [if_neg (by simp; omega)]
  by_cases h2 : more.length > 400
  · rw [if_pos (decide_eq_true (by omega))]
  rw [if_neg (by simp; omega)]
  by_cases h3 : b.length > 400
  · rw [if_pos (decide_eq_true (by omega))]
  rw [if_neg (by simp; omega), lwrite_is (by decide) (by decide) h hk, Option.bind_some]
  by_cases hc : chkV 1000 h = 0
  · have hlen := wB_len h
    have hw : (wB h).length ≤ 350 := by rw [hlen]; split <;> omega
    have hw0 : 30 ≤ (wB h).length := by omega
    rw [if_pos hc, if_pos (show ((0 : Int) == 0) = true from rfl)]
    rw [copy_is 1000 (show (wB h).length ≤ 4294967296 by omega), Option.bind_some, if_pos (lim_of (show (((wB h).length : Nat) : Int) + (more.length : Int) ≤ 4294967296 by omega))]
    rw [parse_is (n := 1000) (by decide) ((wB_by h).append hm) (by rw [List.length_append]; omega), Option.bind_some, parse_write h hk hc more]
    rw [if_neg (show ¬ (((0 : Int) != 0) = true) by decide), if_neg (by simp)]
    rw [if_neg (by rw [(eqB_iff (k := .pair (.int .i64) (.pair (.pair (.int .i64) (.pair (.int .i64) (.pair (.int .i64) (.pair (.int .i64) (.pair (.int .i64) (.pair (.int .i64) .unit)))))) (.pair (.int .u32) (.pair (.int .u64) (.pair (.int .u64) (.pair .str .unit)))))) rfl h h).2 rfl]; decide)]
    have hb1 := band1023 cut
    have hL : (0 : Int) < ((wB h).length : Int) := by omega
    obtain ⟨c, hcv⟩ : ∃ c : Nat, Int.tmod (band IntKind.i64 cut (1023 : Int)) (((wB h).length : Nat) : Int) = (c : Int) ∧ c < (wB h).length := by
      rw [Int.tmod_eq_emod_of_nonneg hb1.1]
      refine ⟨(band IntKind.i64 cut 1023 % ((wB h).length : Int)).toNat, ?_, ?_⟩
      · have := Int.emod_nonneg (band IntKind.i64 cut 1023) (show ((wB h).length : Int) ≠ 0 by omega); omega
      · have := Int.emod_lt_of_pos (band IntKind.i64 cut 1023) hL
        have := Int.emod_nonneg (band IntKind.i64 cut 1023) (show ((wB h).length : Int) ≠ 0 by omega); omega
    dsimp only
    rw [if_neg (show ¬ (((wB h).length : Nat) : Int) = 0 by omega), hcv.1, if_pos (by omega), if_pos (by omega), Int.toNat_natCast, List.drop_zero]
    rw [parse_is (n := 1000) (by decide) ((wB_by h).take c) (by rw [List.length_take]; omega), Option.bind_some]
    have ht := back_tail hb (by omega)
    rcases parse_cut (n := 1000) h hk hc c hcv.2 with g | ⟨g1, g2⟩
    · rw [g, if_neg (show ¬ (((20 : Int) != 20) = true) by decide)]
      exact ht
    · rw [g2, if_pos (show ((44 : Int) != 20) = true from rfl), if_neg (by simp; omega), if_neg (show ¬ (((44 : Int) != 44) = true) by decide)]
      exact ht
  · rw [if_neg hc]
    rw [if_neg (by simp [hc])]
    exact back_tail hb (by omega)
end Go.Proofs.YtdbaglogmdkbpaaDoor.Vm
