/- How strings.SplitSeq at one byte goes on. Conditions: as each theorem states them. -/
import Derived.RangeFuncNested
import Derived.RangeFuncBound
import Derived.RangeFuncCalls
import Derived.RangeFuncLeaves
import Derived.RangeFuncBox
import Derived.Shelf.Abstract
import Derived.Shelf.RegionOpen
import Derived.WalkKit
import Derived.OwnWalkIn
import Derived.TacticsInMore
import Derived.LoopNIn
import Derived.LoopIn
import Derived.Shelf.Lay
import Derived.Shelf.Strings.Search3
import Derived.Test.YtcnegcjjeakmmaaDoorProg
namespace Go.Proofs.YtcnegcjjeakmmaaDoor.Nm
set_option linter.unusedVariables false
set_option linter.unusedSimpArgs false
open Go Go.RowKit Go.Shelf Go.Proofs Go.Lib
shelf_lay Lays.n143 Nm 143 at Tryd as lays143
def idx (t : ByteArray) : Int := Lib.indexByte t.data.toList 47
def hd (t : ByteArray) : ByteArray := if idx t < 0 then t else t.extract 0 (idx t).toNat
def tl (t : ByteArray) : ByteArray := t.extract ((idx t).toNat + 1) t.size
theorem index_ok (t : ByteArray) (w : World) : Calls Go.Proofs.Tryd.prog 69 #[.string t, .string ⟨#[47]⟩] w fun e w' => e = .returned (.int .i64 (idx t)) ∧ w' = w := Any.strings_Index_one lays143 t 47 w
attribute [local go_sem] Oper.semAt_some
theorem indexByte_range (c : UInt8) : ∀ l : List UInt8, Lib.indexByte l c = -1 ∨ (0 ≤ Lib.indexByte l c ∧ Lib.indexByte l c < l.length)
  | [] => .inl rfl
  | b :: l => by
    unfold Lib.indexByte
    split
    · exact .inr ⟨Int.le_refl _, by simp only [List.length_cons]; omega⟩
    · split
      · exact .inl rfl
      · rename_i h
        have h' : Lib.indexByte l c ≠ -1 := by simpa using h
        rcases indexByte_range c l with g | g
        · exact absurd g h'
        · exact .inr ⟨by omega, by simp only [List.length_cons]; omega⟩
theorem idx_range (t : ByteArray) : idx t = -1 ∨ (0 ≤ idx t ∧ idx t < t.size) := indexByte_range 47 t.data.toList
theorem wrap64_of {n : Int} (h0 : 0 ≤ n) (h1 : n < 9223372036854775808) : wrap64 n = n := by unfold wrap64; omega
def left (Bs : Nat) (W : World) : Nat := match W.cell? ⟨Bs, 0, none⟩ with
  | some (.string t) => t.size
  | _ => 0
/-- How strings.SplitSeq at one slash goes on: J t: t is still to be split; behind a round the rest is put in. -/
theorem split_iter (n : Nat) (hn : 2 ≤ n) (l Bs Bp Bv : Nat) (J : ByteArray → World → Prop) (Jd Jx : World → Prop)
    (hJ : ∀ t W, J t W → Boxed W Bs 9 (.string t) ∧ Boxed W Bp 9 (.string ⟨#[47]⟩) ∧ Boxed W Bv 3 (.int .i64 0) ∧ t.size ≤ 1000)
    (hY : ∀ t W, J t W → YieldAt Fence.wide (n - 1) Go.Proofs.Tryd.prog l #[.string (hd t)] W fun e W' =>
      (e = .returned (.bool true) ∧ (idx t < 0 → Jd W') ∧ (0 ≤ idx t → Boxed W' Bs 9 (.string t) ∧ Boxed W' Bp 9 (.string ⟨#[47]⟩) ∧ J (tl t) (W'.setCell ⟨Bs, 0, none⟩ (.string (tl t))))) ∨ (e = .returned (.bool false) ∧ Jx W'))
    (t0 : ByteArray) (W : World) (h0 : J t0 W) :
    CallsIn Fence.wide n Go.Proofs.Tryd.prog 67 #[.func (.yield l) #[] #[], .pointer (some ⟨Bp, 0, none⟩), .pointer (some ⟨Bs, 0, none⟩), .pointer (some ⟨Bv, 0, none⟩)] W fun e W' => (∃ v, e = .returned v) ∧ (Jd W' ∨ Jx W') := by
  refine callsIn_of_wp Go.Proofs.Tryd.func67 rfl trivial ?_ rfl
  simp only [Go.Proofs.Tryd.ntmps67, List.size_toArray, List.length_cons, List.length_nil, Nat.reduceAdd, Nat.reduceSub, Array.replicate_succ, Array.replicate_zero, List.push_toArray, List.append_toArray, List.nil_append, List.cons_append]
  have hb := hJ _ _ h0
  have hb1 := hb.1.cell
  have hb2 := hb.2.1.cell
  have hb3 := hb.2.2.1.cell
  gi_wp2
  gi_loopw [] (fun wr => ∃ t, J t wr) (fun wr => left Bs wr)
  case atStart => exact ⟨t0, h0⟩
  case round =>
    obtain ⟨t, ht⟩ := hrel
    have hb := hJ _ _ ht
    have hb1 := hb.1.cell
    have hb2 := hb.2.1.cell
    have hb3 := hb.2.2.1.cell
    have hf1 := hb.1.frozen
    have hsz := hb.2.2.2
    have hYt := hY t _ ht
    rcases idx_range t with hi | hi
    · have hd0 : hd t = t := by unfold hd; rw [if_pos (by omega)]
      rw [hd0] at hYt
      obtain ⟨fn, tmps, assign, body, hy, hR⟩ := hYt
      gi_wp2_with (refine ⟨trivial, fun h => (by cases h), ?_⟩; refine (callsIn_wide.2 (index_ok _ _)).mono ?_; rintro e w' ⟨rfl, rfl⟩)
      refine ⟨fun h => (by cases h), hR.mono ?_⟩
      rintro e W' (⟨rfl, hd, _⟩ | ⟨rfl, hx⟩)
      · gi_wp2
        go_end0
        exact ⟨⟨_, rfl⟩, .inl (hd (by omega))⟩
      · gi_wp2
        go_end0
        exact ⟨⟨_, rfl⟩, .inr hx⟩
    · have hw : wrap64 (idx t) = idx t := wrap64_of hi.1 (by omega)
      have hw1 : wrap64 (idx t + 1) = idx t + 1 := wrap64_of (by omega) (by omega)
      have hd0 : hd t = t.extract 0 (idx t).toNat := by unfold hd; rw [if_neg (by omega)]
      rw [hd0] at hYt
      obtain ⟨fn, tmps, assign, body, hy, hR⟩ := hYt
      gi_wp2_with (refine ⟨trivial, fun h => (by cases h), ?_⟩; refine (callsIn_wide.2 (index_ok _ _)).mono ?_; rintro e w' ⟨rfl, rfl⟩)
      refine ⟨fun h => (by cases h), hR.mono ?_⟩
      rintro e W' (⟨rfl, _, hg⟩ | ⟨rfl, hx⟩)
      · obtain ⟨b1, b2, hJ2⟩ := hg hi.1
        have c1 := b1.cell
        have c2 := b2.cell
        have c3 := b1.frozen
        have htl : tl t = t.extract (idx t + 1).toNat t.size := by unfold tl; rw [show (idx t + 1).toNat = (idx t).toNat + 1 by omega]
        rw [htl] at hJ2
        gi_wp2
        refine ⟨⟨_, hJ2⟩, ?_⟩
        have e1 : left Bs (W'.setCell ⟨Bs, 0, none⟩ (.string (t.extract (idx t + 1).toNat t.size))) = (t.extract (idx t + 1).toNat t.size).size := by
          unfold left; rw [(hJ _ _ hJ2).1.cell]
        have e2 : left Bs w' = t.size := by unfold left; rw [hb1]
        rw [e1, e2, ByteArray.size_extract]
        omega
      · gi_wp2
        (try simp only [Exit.inBlock, Exit.then]); refine bodyPost_ret (results_none rfl _ _ _) rfl ?_
        exact ⟨⟨_, rfl⟩, .inr hx⟩
end Go.Proofs.YtcnegcjjeakmmaaDoor.Nm
