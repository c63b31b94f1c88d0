/- Layer 18: rows and sizes. Conditions: as each theorem states them. -/
import Derived.Test.YtdbaglogmdkbpaaDoorK7
namespace Go.Proofs.YtdbaglogmdkbpaaDoor.Vm
open Go Go.RowKit
set_option linter.unusedVariables false
set_option linter.unusedSimpArgs false
set_option maxRecDepth 100000
@[reducible] def HK : Ki := .pair (.int .i64) (.pair (.pair (.int .i64) (.pair (.int .i64) (.pair (.int .i64) (.pair (.int .i64) (.pair (.int .i64) (.pair (.int .i64) .unit)))))) (.pair (.int .u32) (.pair (.int .u64) (.pair (.int .u64) (.pair .str .unit)))))
theorem HK_iff (x y : Hdr) : Ki.eqB HK x y = true ↔ x = y := eqB_iff (k := HK) rfl x y
theorem localRows (a b : Hdr) (ha : HdOk a) (hb : HdOk b) : law18_LocalRows.f 1000 (a, b, ()) = some (true, ()) := by
  rw [law18_LocalRows.eq, alive18, Option.bind_some, if_neg (show ¬ ((!true) = true) by decide)]
  by_cases h1 : a.2.2.2.2.2.1.size > 300
  · rw [if_pos (decide_eq_true (by omega))]
  rw [if_neg (by simp; omega)]
  by_cases h2 : b.2.2.2.2.2.1.size > 300
  · rw [if_pos (decide_eq_true (by omega))]
  rw [if_neg (by simp; omega), lwrite_is (by decide) (by decide) a ha, Option.bind_some, lwrite_is (by decide) (by decide) b hb, Option.bind_some]
  by_cases ca : chkV 1000 a = 0
  · rw [if_pos ca, if_neg (show ¬ (((0 : Int) != 0) = true) by decide)]
    by_cases cb : chkV 1000 b = 0
    · have la := wB_len a
      have lb := wB_len b
      have wa : (wB a).length ≤ 350 := by rw [la]; split <;> omega
      have wb : (wB b).length ≤ 350 := by rw [lb]; split <;> omega
      rw [if_pos cb, if_neg (show ¬ (((0 : Int) != 0) = true) by decide)]
      rw [copy_is 1000 (show (wB a).length ≤ 4294967296 by omega), Option.bind_some, if_pos (lim_of (show (((wB a).length : Nat) : Int) + ((wB b).length : Int) ≤ 4294967296 by omega))]
      rw [parse_is (n := 1000) (by decide) ((wB_by a).append (wB_by b)) (by rw [List.length_append]; omega), Option.bind_some, parse_write a ha ca (wB b)]
      rw [if_neg (show ¬ (((0 : Int) != 0) = true) by decide), if_neg (by simp)]
      rw [if_neg (by rw [(HK_iff a a).2 rfl]; decide)]
      dsimp only
      rw [if_pos (show (0 : Int) ≤ (((wB a).length : Nat) : Int) by omega), if_pos (show (((wB a).length : Nat) : Int) ≤ ((((wB a) ++ (wB b)).length : Nat) : Int) by rw [List.length_append]; omega), Int.toNat_natCast, List.take_length, List.drop_left]
      rw [parse_is (n := 1000) (by decide) (wB_by b) (by omega), Option.bind_some]
      have hpb := parse_write b hb cb []
      rw [List.append_nil] at hpb
      rw [hpb, if_pos (show ((0 : Int) == 0) = true from rfl), if_pos (by simp), if_pos ((HK_iff b b).2 rfl)]
      rw [same_is (by omega) (by decide), Option.bind_some]
      have hsame : (wB a = wB b) ↔ a = b := by
        refine ⟨fun h => ?_, fun h => by rw [h]⟩
        have hpa := parse_write a ha ca []
        rw [List.append_nil, h, hpb] at hpa
        exact (congrArg (fun x => x.1) hpa).symm
      by_cases hab : a = b
      · have e1 : Ki.eqB HK a b = true := (HK_iff a b).2 hab
        rw [decide_eq_true (hsame.2 hab)]
        exact congrArg (fun c => some ((true == c), ())) e1
      · have e1 : Ki.eqB HK a b = false := by
          cases hc : Ki.eqB HK a b with
          | false => rfl
          | true => exact absurd ((HK_iff a b).1 hc) hab
        rw [decide_eq_false (fun h => hab (hsame.1 h))]
        exact congrArg (fun c => some ((false == c), ())) e1
    · rw [if_neg cb, if_pos (by simp [cb])]
  · rw [if_neg ca, if_pos (by simp [ca])]
theorem mid_is (h : Hdr) : List.drop 6 (List.take 14 (wB h)) = les [(2, 2048), (2, h.1), (2, timeN h.2.1), (2, dateN h.2.1)] := by
  unfold wB hdN
  split <;> rfl
theorem nm_is (h : Hdr) : List.drop 30 (List.take (30 + h.2.2.2.2.2.1.size) (wB h)) = sbytes h.2.2.2.2.2.1 := by
  rw [cut_is]
  unfold wB
  rw [List.drop_left' (hdN_len h), List.take_left' (sbytes_len _)]
theorem sizes_tail (L : Int) (g : Hdr) (x : List Int) (hL : L = 30 + (g.2.2.2.2.2.1.size : Int) + (if grt g then 20 else 0)) (hs : g.2.2.2.2.2.1.size ≤ 300) (hx : 30 ≤ x.length) (hm : List.drop 6 (List.take 14 x) = List.drop 6 (List.take 14 (wB g))) :
    (if (((wB g).length : Int) == L) = true then (local_Size.f 1000 (g, ())).bind (fun y18 => (if (y18.1 == L) = true then (if 0 ≤ (6 : Int) then (if (6 : Int) ≤ (14 : Int) then (if (14 : Int) ≤ (((List.length x) : Nat) : Int) then (if 0 ≤ (6 : Int) then (if (6 : Int) ≤ (14 : Int) then (if (14 : Int) ≤ (((List.length (wB g)) : Nat) : Int) then (ref01_Same.f 1000 ((List.drop (Int.toNat (6 : Int)) (List.take (Int.toNat (14 : Int)) x)), (List.drop (Int.toNat (6 : Int)) (List.take (Int.toNat (14 : Int)) (wB g))), ())).bind (fun y19 => (if y19.1 = true then (if 0 ≤ (30 : Int) then (if (30 : Int) ≤ (wr IntKind.i64 ((30 : Int) + ((ByteArray.size g.2.2.2.2.2.1 : Nat) : Int))) then (if (wr IntKind.i64 ((30 : Int) + ((ByteArray.size g.2.2.2.2.2.1 : Nat) : Int))) ≤ (((List.length (wB g)) : Nat) : Int) then (some ((ByteArray.toList (strOf (List.drop (Int.toNat (30 : Int)) (List.take (Int.toNat (wr IntKind.i64 ((30 : Int) + ((ByteArray.size g.2.2.2.2.2.1 : Nat) : Int)))) (wB g)))) == ByteArray.toList g.2.2.2.2.2.1), ())) else none) else none) else none) else (some (false, ())))) else none) else none) else none) else none) else none) else none) else (some (false, ())))) else (some (false, ()))) = some (true, ()) := by
  have hl := wB_len g
  have hl' : ((wB g).length : Int) = L := by rw [hL, hl]; split <;> omega
  have hl2 : 30 + g.2.2.2.2.2.1.size ≤ (wB g).length := by rw [hl]; omega
  have e2 : wr .i64 ((30 : Int) + (g.2.2.2.2.2.1.size : Int)) = ((30 + g.2.2.2.2.2.1.size : Nat) : Int) := by rw [wr64 (by omega) (by omega)]; omega
  rw [if_pos (by simp [hl']), lsize_is 1000 g (by omega), Option.bind_some, ← hL, if_pos (by simp), if_pos (by decide), if_pos (by decide), if_pos (by omega), if_pos (by decide), if_pos (by decide), if_pos (by omega)]
  rw [show (Int.toNat (6 : Int)) = 6 from rfl, show (Int.toNat (14 : Int)) = 14 from rfl, hm, mid_is, same_is (by show 8 < 1000; decide) (by decide), Option.bind_some, if_pos (decide_eq_true rfl), if_pos (by decide), e2, if_pos (by omega), if_pos (by omega), Int.toNat_natCast, show (Int.toNat (30 : Int)) = 30 from rfl, nm_is, str_bytes]
  simp
theorem localSizes (h : Hdr) (hk : HdOk h) (p s m : Int) (hp : 0 ≤ p ∧ p < 18446744073709551616) (hs : 0 ≤ s ∧ s < 18446744073709551616) (hm : 0 ≤ m ∧ m < 4294967296) : law18_LocalSizes.f 1000 (h, p, s, m, ()) = some (true, ()) := by
  rw [law18_LocalSizes.eq, alive18, Option.bind_some, if_neg (show ¬ ((!true) = true) by decide)]
  by_cases h1 : h.2.2.2.2.2.1.size > 300
  · rw [if_pos (decide_eq_true (by omega))]
  obtain ⟨g, hg⟩ : ∃ g : Hdr, g = (h.1, h.2.1, m, p, s, h.2.2.2.2.2.1, ()) := ⟨_, rfl⟩
  have gk : HdOk g := by subst hg; exact ⟨hm, hp, hs⟩
  have gc : chkV 1000 g = chkV 1000 h := by subst hg; rfl
  have gn : g.2.2.2.2.2.1 = h.2.2.2.2.2.1 := by subst hg; rfl
  rw [if_neg (by simp; omega), lwrite_is (by decide) (by decide) h hk, Option.bind_some]
  show (local_Write.f 1000 ((h.1, h.2.1, m, p, s, h.2.2.2.2.2.1, ()), ())).bind _ = _
  rw [← hg, lwrite_is (by decide) (by decide) g gk, Option.bind_some, gc]
  by_cases hc : chkV 1000 h = 0
  · have lh := wB_len h
    have mid : List.drop 6 (List.take 14 (wB h)) = List.drop 6 (List.take 14 (wB g)) := by rw [mid_is, mid_is, hg]
    have e1 : wr .i64 ((30 : Int) + (h.2.2.2.2.2.1.size : Int)) = 30 + (h.2.2.2.2.2.1.size : Int) := wr64 (by omega) (by omega)
    have e2 : wr .i64 (wr .i64 ((30 : Int) + (h.2.2.2.2.2.1.size : Int)) + 20) = 30 + (h.2.2.2.2.2.1.size : Int) + 20 := by rw [e1, wr64 (by omega) (by omega)]
    rw [if_pos hc, if_pos hc, if_neg (show ¬ (((0 : Int) != 0) = true) by decide), if_neg (show ¬ (((0 : Int) != 0) = true) by decide)]
    have tl := fun L hL => sizes_tail L g (wB h) hL (by rw [gn]; omega) (by omega) mid
    rw [gn] at tl
    by_cases g1 : p ≥ 4294967295
    · have hgr : grt g := by subst hg; exact .inl g1
      rw [if_pos (decide_eq_true g1)]
      have := tl (wr .i64 (wr .i64 ((30 : Int) + (h.2.2.2.2.2.1.size : Int)) + 20)) (by rw [e2, if_pos hgr])
      rw [hg] at this ⊢
      exact this
    · rw [if_neg (by simpa using g1)]
      by_cases g2 : s ≥ 4294967295
      · have hgr : grt g := by subst hg; exact .inr g2
        rw [if_pos (decide_eq_true g2)]
        have := tl (wr .i64 (wr .i64 ((30 : Int) + (h.2.2.2.2.2.1.size : Int)) + 20)) (by rw [e2, if_pos hgr])
        rw [hg] at this ⊢
        exact this
      · have hgr : ¬ grt g := by subst hg; rintro (h | h); exact g1 h; exact g2 h
        rw [if_neg (by simpa using g2)]
        have := tl (wr .i64 ((30 : Int) + (h.2.2.2.2.2.1.size : Int))) (by rw [e1, if_neg hgr, Int.add_zero])
        rw [hg] at this ⊢
        exact this
  · rw [if_neg hc, if_neg hc, if_neg (by simp), if_pos (by simp [hc])]
    rfl
end Go.Proofs.YtdbaglogmdkbpaaDoor.Vm
