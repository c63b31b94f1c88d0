/- Layer 18: LocalParses. Conditions: as each theorem states them. -/
import Derived.Test.YtdbaglogmdkbpaaDoorK12
namespace Go.Proofs.YtdbaglogmdkbpaaDoor.Vm
open Go Go.RowKit
set_option linter.unusedVariables false
set_option linter.unusedSimpArgs false
set_option maxRecDepth 100000
section
variable {n : Nat} (hn : 1000 ≤ n) {b : List Int} (hb : By b) (hl : b.length ≤ 1000000)
include hn hb hl
theorem at_is {i k : Nat} (hk : k ≤ 8) (h : i + k ≤ b.length) : ref18_at.f n (b, (i : Int), (k : Int), ()) = some (gt b i k, ()) := by
  have e : wr .i64 ((i : Int) + (k : Int)) = ((i + k : Nat) : Int) := by rw [wr64 (by omega) (by omega)]; omega
  rw [ref18_at.eq, e, if_pos (by omega), if_pos (by omega), if_pos (by omega), Int.toNat_natCast, Int.toNat_natCast, cut_is, rget_is (by omega) ((hb.drop i).take k) (by rw [List.length_take]; omega), Option.bind_some]
  rfl
theorem at2 {i : Nat} (h : i + 2 ≤ b.length) : ref18_at.f n (b, (i : Int), 2, ()) = some (gt b i 2, ()) := at_is hn hb hl (k := 2) (by decide) h
theorem at4 {i : Nat} (h : i + 4 ≤ b.length) : ref18_at.f n (b, (i : Int), 4, ()) = some (gt b i 4, ()) := at_is hn hb hl (k := 4) (by decide) h
theorem at8 {i : Nat} (h : i + 8 ≤ b.length) : ref18_at.f n (b, (i : Int), 8, ()) = some (gt b i 8, ()) := at_is hn hb hl (k := 8) (by decide) h
end
theorem le2_at {b : List Int} (hb : By b) {i : Nat} (h : i + 2 ≤ b.length) : le 2 (gt b i 2) = [b.getD i 0, b.getD (i + 1) 0] := by
  have hlen : ((b.drop i).take 2).length = 2 := by rw [List.length_take, List.length_drop]; omega
  have h1 := le_ge ((hb.drop i).take 2)
  rw [hlen] at h1
  refine h1.trans ?_
  rw [List.drop_eq_getElem_cons (by omega), List.drop_eq_getElem_cons (by omega), getD_eq (by omega), getD_eq (by omega)]
  rfl
theorem runpack_is (n : Nat) (d m : Int) (hd : 0 ≤ d) (hd' : d < 65536) (hm : 0 ≤ m) (hm' : m < 65536) : ref17_Unpack.f n (d, m, ()) = some (if StOk (unS d m) then unS d m else zS, decide (StOk (unS d m)), ()) := by
  refine (ref17_Unpack.eq n d m).trans ?_
  have e1 : d.tdiv 512 = d / 512 := Int.tdiv_eq_ediv_of_nonneg hd
  have e2 : d.tdiv 32 = d / 32 := Int.tdiv_eq_ediv_of_nonneg hd
  have e3 : d.tmod 32 = d % 32 := Int.tmod_eq_emod_of_nonneg hd
  have e4 : m.tdiv 2048 = m / 2048 := Int.tdiv_eq_ediv_of_nonneg hm
  have e5 : m.tdiv 32 = m / 32 := Int.tdiv_eq_ediv_of_nonneg hm
  have e6 : m.tmod 32 = m % 32 := Int.tmod_eq_emod_of_nonneg hm
  have e7 : (d / 32).tmod 16 = d / 32 % 16 := Int.tmod_eq_emod_of_nonneg (by omega)
  have e8 : (m / 32).tmod 64 = m / 32 % 64 := Int.tmod_eq_emod_of_nonneg (by omega)
  rw [wr64 (x := d) (by omega) (by omega), wr64 (x := m) (by omega) (by omega), e1, e2, e3, e4, e5, e6, wr64 (x := d / 512) (by omega) (by omega), wr64 (x := d / 32) (by omega) (by omega), wr64 (x := m / 2048) (by omega) (by omega), wr64 (x := m / 32) (by omega) (by omega), e7, e8, wr64 (x := 1980 + d / 512) (by omega) (by omega), wr64 (x := 2 * (m % 32)) (by omega) (by omega), Int.mul_comm 2 (m % 32)]
  show (ref17_Right.f n (unS d m, ())).bind (fun y1 => if (!y1.1) = true then some (zS, false, ()) else some (unS d m, true, ())) = _
  rw [right_is, Option.bind_some]
  by_cases h : StOk (unS d m)
  · rw [if_neg (by simp [h]), if_pos h, decide_eq_true h]
  · rw [if_pos (by simp [h]), if_neg h, decide_eq_false h]
theorem rpack_any (n : Nat) (t : Stm) : ∃ d m, ref17_Pack.f n (t, ()) = some (d, m, ()) := ⟨_, _, ref17_Pack.eq n t⟩
/-- what is laid over the document's bytes -/
theorem set_is {b : List Int} (hb : By b) (h30 : 30 ≤ b.length) (h : Hdr) (m T D : Int) : ((((((rB h m T D).set 8 (b.getD 8 0)).set 9 (b.getD 9 0)).set 10 (b.getD 10 0)).set 11 (b.getD 11 0)).set 12 (b.getD 12 0)).set 13 (b.getD 13 0) = rB h (gt b 8 2) (gt b 10 2) (gt b 12 2) := by
  have e8 := le2_at hb (i := 8) (by omega)
  have e10 := le2_at hb (i := 10) (by omega)
  have e12 := le2_at hb (i := 12) (by omega)
  unfold rB rN
  split
  · have : les (hdL 45 (gt b 8 2) (gt b 10 2) (gt b 12 2) h.2.2.1 4294967295 4294967295 (h.2.2.2.2.2.1.size : Int) 20) = le 4 67324752 ++ (le 2 45 ++ (le 2 2048 ++ (le 2 (gt b 8 2) ++ (le 2 (gt b 10 2) ++ (le 2 (gt b 12 2) ++ les [(4, h.2.2.1), (4, 4294967295), (4, 4294967295), (2, (h.2.2.2.2.2.1.size : Int)), (2, 20)]))))) := rfl
    rw [this, e8, e10, e12]
    rfl
  · have : les (hdL 20 (gt b 8 2) (gt b 10 2) (gt b 12 2) h.2.2.1 h.2.2.2.1 h.2.2.2.2.1 (h.2.2.2.2.2.1.size : Int) 0) = le 4 67324752 ++ (le 2 20 ++ (le 2 2048 ++ (le 2 (gt b 8 2) ++ (le 2 (gt b 10 2) ++ (le 2 (gt b 12 2) ++ les [(4, h.2.2.1), (4, h.2.2.2.1), (4, h.2.2.2.2.1), (2, (h.2.2.2.2.2.1.size : Int)), (2, 0)]))))) := rfl
    rw [this, e8, e10, e12]
    rfl
/-- The bytes are these again just if all is as it must be. -/
theorem same_iff {b : List Int} (hb : By b) (h30 : 30 ≤ b.length) (h : Hdr) (h0 : gt b 0 4 = 67324752) (hlen : 30 + gt b 26 2 + gt b 28 2 ≤ b.length) (he : gt b 28 2 = 0 ∨ gt b 28 2 = 20) (hsu : h.2.2.1 = gt b 14 4) (hnm : h.2.2.2.2.2.1 = strOf (nmB b))
    (hps : (gt b 28 2 = 20 ∧ h.2.2.2.1 = gt b (42 + nlN b) 8 ∧ h.2.2.2.2.1 = gt b (34 + nlN b) 8) ∨ (gt b 28 2 ≠ 20 ∧ h.2.2.2.1 = gt b 18 4 ∧ h.2.2.2.2.1 = gt b 22 4)) :
    rB h (gt b 8 2) (gt b 10 2) (gt b 12 2) = b.take (30 + gt b 26 2 + gt b 28 2).toNat ↔ (mrV b = some (h.2.2.2.1, h.2.2.2.2.1) ∧ gt b 6 2 = 2048) := by
  have r4 := gt2 hb 4
  have r8 := gt2 hb 8
  have r10 := gt2 hb 10
  have r12 := gt2 hb 12
  have r14 := gt4 hb 14
  have r18 := gt4 hb 18
  have r22 := gt4 hb 22
  have r26 := gt2 hb 26
  have r28 := gt2 hb 28
  have q1 := gt8 hb (42 + nlN b)
  have q2 := gt8 hb (34 + nlN b)
  have hN : (nlN b : Int) = gt b 26 2 := by unfold nlN; omega
  have hnl : (nmB b).length = nlN b := by unfold nmB; rw [List.length_take, List.length_drop]; omega
  have hnb : By (nmB b) := (hb.drop 30).take _
  have hsz : (h.2.2.2.2.2.1.size : Int) = gt b 26 2 := by rw [hnm, str_size, hnl, hN]
  have hsb : sbytes h.2.2.2.2.2.1 = nmB b := by rw [hnm]; exact bytes_str hnb
  have hszN : h.2.2.2.2.2.1.size = nlN b := by omega
  have e30 := flds_is hb [4, 2, 2, 2, 2, 2, 4, 4, 4, 2, 2] 0 (by show 0 + 30 ≤ b.length; omega)
  have e30' : les [(4, gt b 0 4), (2, gt b 4 2), (2, gt b 6 2), (2, gt b 8 2), (2, gt b 10 2), (2, gt b 12 2), (4, gt b 14 4), (4, gt b 18 4), (4, gt b 22 4), (2, gt b 26 2), (2, gt b 28 2)] = b.take 30 := e30
  constructor
  · intro hS
    have g : ∀ i k : Nat, i + k ≤ 30 → gt (rB h (gt b 8 2) (gt b 10 2) (gt b 12 2)) i k = gt b i k := fun i k hik => by
      rw [hS]; exact gt_take b _ i k (by omega)
    unfold rB rN at g
    by_cases hg : grt h
    · rw [if_pos hg] at g
      have hL : HL 45 (gt b 8 2) (gt b 10 2) (gt b 12 2) h.2.2.1 4294967295 4294967295 (h.2.2.2.2.2.1.size : Int) 20 := ⟨by omega, r8, r10, r12, by omega, by omega, by omega, by omega, by omega⟩
      have g4 := (f4 hL (sbytes h.2.2.2.2.2.1 ++ mrB h)).symm.trans (g 4 2 (by decide))
      have g6 := (f6 hL (sbytes h.2.2.2.2.2.1 ++ mrB h)).symm.trans (g 6 2 (by decide))
      have g18 := (f18 hL (sbytes h.2.2.2.2.2.1 ++ mrB h)).symm.trans (g 18 4 (by decide))
      have g22 := (f22 hL (sbytes h.2.2.2.2.2.1 ++ mrB h)).symm.trans (g 22 4 (by decide))
      have g28 := (f28 hL (sbytes h.2.2.2.2.2.1 ++ mrB h)).symm.trans (g 28 2 (by decide))
      rcases hps with ⟨x1, x2, x3⟩ | ⟨x1, _, _⟩
      · have hA : rB h (gt b 8 2) (gt b 10 2) (gt b 12 2) = (les (rN h (gt b 8 2) (gt b 10 2) (gt b 12 2)) ++ sbytes h.2.2.2.2.2.1) ++ (les [(2, 1), (2, 16), (8, h.2.2.2.2.1), (8, h.2.2.2.1)] ++ []) := by
          unfold rB mrB; rw [if_pos hg, List.append_nil, List.append_assoc]
        have hAl : (les (rN h (gt b 8 2) (gt b 10 2) (gt b 12 2)) ++ sbytes h.2.2.2.2.2.1).length = 30 + nlN b := by rw [List.length_append, rN_len, sbytes_len, hszN]
        have sk : ∀ i k, 30 + nlN b + i + k ≤ 50 + nlN b → gt b (30 + nlN b + i) k = gt (les [(2, 1), (2, 16), (8, h.2.2.2.2.1), (8, h.2.2.2.1)] ++ []) i k := fun i k hik => by
          rw [← gt_take b (30 + gt b 26 2 + gt b 28 2).toNat (30 + nlN b + i) k (by omega), ← hS, hA, ← hAl]; exact gt_skip _ _ i k
        have t1 := (sk 0 2 (by omega)).trans (gt_field (pre := []) (x := 1) rfl rfl (by decide) (by decide))
        have t2 := (sk 2 2 (by omega)).trans (gt_field (pre := [(2, 1)]) (x := 16) rfl rfl (by decide) (by decide))
        rw [show 30 + nlN b + 0 = 30 + nlN b by omega] at t1
        rw [show 30 + nlN b + 2 = 32 + nlN b by omega] at t2
        refine ⟨?_, g6.symm⟩
        unfold mrV
        unfold grt at hg
        rw [if_neg (by omega), x2, x3, if_pos ⟨x1, g4.symm, g18.symm, g22.symm, t1, t2, by rw [← x2, ← x3]; exact hg⟩]
      · exact absurd g28.symm x1
    · rw [if_neg hg] at g
      have hng : h.2.2.2.1 < 4294967295 ∧ h.2.2.2.2.1 < 4294967295 := by unfold grt at hg; omega
      have hpos : 0 ≤ h.2.2.2.1 ∧ 0 ≤ h.2.2.2.2.1 := by rcases hps with ⟨_, x2, x3⟩ | ⟨_, x2, x3⟩ <;> omega
      have hL : HL 20 (gt b 8 2) (gt b 10 2) (gt b 12 2) h.2.2.1 h.2.2.2.1 h.2.2.2.2.1 (h.2.2.2.2.2.1.size : Int) 0 := ⟨by omega, r8, r10, r12, by omega, by omega, by omega, by omega, by omega⟩
      have g4 := (f4 hL (sbytes h.2.2.2.2.2.1 ++ mrB h)).symm.trans (g 4 2 (by decide))
      have g6 := (f6 hL (sbytes h.2.2.2.2.2.1 ++ mrB h)).symm.trans (g 6 2 (by decide))
      have g28 := (f28 hL (sbytes h.2.2.2.2.2.1 ++ mrB h)).symm.trans (g 28 2 (by decide))
      refine ⟨?_, g6.symm⟩
      unfold mrV
      rcases hps with ⟨x1, _, _⟩ | ⟨x1, x2, x3⟩
      · omega
      · rw [if_pos g28.symm, x2, x3, if_pos ⟨g4.symm, by omega, by omega⟩]
  · rintro ⟨hm, h6⟩
    unfold rB
    rw [hsb]
    unfold mrV at hm
    by_cases x0 : gt b 28 2 = 0
    · rw [if_pos x0] at hm
      split at hm
      · rename_i x1
        rcases hps with ⟨y1, _, _⟩ | ⟨_, y2, y3⟩
        · omega
        · have hg : ¬ grt h := by unfold grt; omega
          unfold rN mrB hdL
          rw [if_neg hg, if_neg hg, hsz, hsu, y2, y3]
          rw [h0, h6, x0, x1.1] at e30'
          refine (congrArg (· ++ (nmB b ++ [])) e30').trans ?_
          show b.take 30 ++ (nmB b ++ []) = _
          rw [List.append_nil, show (30 + gt b 26 2 + gt b 28 2).toNat = 30 + nlN b by omega, List.take_add]
          rfl
      · cases hm
    · rw [if_neg x0] at hm
      split at hm
      · rename_i x1
        obtain ⟨y1, y2, y3, y4, y5, y6, y7⟩ := x1
        rcases hps with ⟨_, w2, w3⟩ | ⟨w1, _, _⟩
        · have hg : grt h := by unfold grt; rw [w2, w3]; exact y7
          have e20 := flds_is hb [2, 2, 8, 8] (30 + nlN b) (by show 30 + nlN b + 20 ≤ b.length; omega)
          have e20' : les [(2, gt b (30 + nlN b) 2), (2, gt b (30 + nlN b + 2) 2), (8, gt b (30 + nlN b + 2 + 2) 8), (8, gt b (30 + nlN b + 2 + 2 + 8) 8)] = (b.drop (30 + nlN b)).take 20 := e20
          rw [show 30 + nlN b + 2 = 32 + nlN b by omega, show 32 + nlN b + 2 = 34 + nlN b by omega, show 34 + nlN b + 8 = 42 + nlN b by omega, y5, y6] at e20'
          unfold rN mrB hdL
          rw [if_pos hg, if_pos hg, hsz, hsu, w2, w3]
          rw [h0, h6, y1, y2, y3, y4] at e30'
          refine (congrArg (· ++ (nmB b ++ _)) e30').trans ?_
          show b.take 30 ++ (nmB b ++ les [(2, 1), (2, 16), (8, gt b (34 + nlN b) 8), (8, gt b (42 + nlN b) 8)]) = _
          rw [e20', show (30 + gt b 26 2 + gt b 28 2).toNat = 30 + nlN b + 20 by omega, List.take_add, List.take_add, List.append_assoc]
          rfl
        · exact absurd y1 w1
      · cases hm
end Go.Proofs.YtdbaglogmdkbpaaDoor.Vm
namespace Go.Proofs.YtdbaglogmdkbpaaDoor.Vm
open Go Go.RowKit
set_option linter.unusedVariables false
set_option linter.unusedSimpArgs false
set_option maxRecDepth 100000
/-- the header out of its cells -/
def hOf (x : (Int × Int × Int × Int × Int × Int × Int × Int × Int × Int × ByteArray × Unit)) : Hdr := (x.1, ((x.2.1, (x.2.2.1, (x.2.2.2.1, (x.2.2.2.2.1, (x.2.2.2.2.2.1, (x.2.2.2.2.2.2.1, ())))))), (x.2.2.2.2.2.2.2.1, (x.2.2.2.2.2.2.2.2.1, (x.2.2.2.2.2.2.2.2.2.1, (x.2.2.2.2.2.2.2.2.2.2.1, ()))))))
def tlV (n : Nat) (h : Hdr) (ok : Bool) (S : Prop) [Decidable S] (L : Int) : Hdr × Int × Int × Unit := if S then (if h.1 ≠ 0 ∧ h.1 ≠ 8 then (zH, 0, 43, ()) else if ok = false then (zH, 0, 41, ()) else if nmV n h.2.2.2.2.2.1 ≠ 0 then (zH, 0, nmV n h.2.2.2.2.2.1, ()) else (h, L, 0, ())) else (zH, 0, 21, ())
theorem ptail {n : Nat} (hn : 1000 ≤ n) (hn' : n ≤ 1000000) (y46 : List Int × (Int × Int × Int × Int × Int × Int × Int × Int × Int × Int × ByteArray × Unit) × Int × Int × (Int × Int × Int × Int × Int × Int × Int × Int × Int × Int × ByteArray × Unit) × Bool × List Int × Unit) (hN : 0 ≤ y46.2.2.1) (hM : 0 ≤ y46.2.2.2.1) (hlen : 30 + y46.2.2.1 + y46.2.2.2.1 ≤ y46.1.length) (hl : y46.1.length ≤ 1000000) (ha : y46.2.2.2.2.2.2.1.length < n) :
    (if 0 ≤ (wr IntKind.i64 ((wr IntKind.i64 ((30 : Int) + y46.2.2.1)) + y46.2.2.2.1)) then (if (wr IntKind.i64 ((wr IntKind.i64 ((30 : Int) + y46.2.2.1)) + y46.2.2.2.1)) ≤ (((List.length y46.1) : Nat) : Int) then (ref01_Same.f n (y46.2.2.2.2.2.2.1, (List.drop 0 (List.take (Int.toNat (wr IntKind.i64 ((wr IntKind.i64 ((30 : Int) + y46.2.2.1)) + y46.2.2.2.1))) y46.1)), ())).bind (fun y50 => (if (!y50.1) = true then (some (((0 : Int), (((0 : Int), ((0 : Int), ((0 : Int), ((0 : Int), ((0 : Int), ((0 : Int), ())))))), ((0 : Int), ((0 : Int), ((0 : Int), (ByteArray.empty, ())))))), (0 : Int), (21 : Int), ())) else (if (y46.2.2.2.2.1.1 != (0 : Int)) = true then (if (y46.2.2.2.2.1.1 != (8 : Int)) = true then (some (((0 : Int), (((0 : Int), ((0 : Int), ((0 : Int), ((0 : Int), ((0 : Int), ((0 : Int), ())))))), ((0 : Int), ((0 : Int), ((0 : Int), (ByteArray.empty, ())))))), (0 : Int), (43 : Int), ())) else (if (!y46.2.2.2.2.2.1) = true then (some (((0 : Int), (((0 : Int), ((0 : Int), ((0 : Int), ((0 : Int), ((0 : Int), ((0 : Int), ())))))), ((0 : Int), ((0 : Int), ((0 : Int), (ByteArray.empty, ())))))), (0 : Int), (41 : Int), ())) else (ref16_Check.f n (y46.2.2.2.2.1.2.2.2.2.2.2.2.2.2.2.1, ())).bind (fun y51 => (if (y51.1 != (0 : Int)) = true then (some (((0 : Int), (((0 : Int), ((0 : Int), ((0 : Int), ((0 : Int), ((0 : Int), ((0 : Int), ())))))), ((0 : Int), ((0 : Int), ((0 : Int), (ByteArray.empty, ())))))), (0 : Int), y51.1, ())) else (some ((y46.2.2.2.2.1.1, ((y46.2.2.2.2.1.2.1, (y46.2.2.2.2.1.2.2.1, (y46.2.2.2.2.1.2.2.2.1, (y46.2.2.2.2.1.2.2.2.2.1, (y46.2.2.2.2.1.2.2.2.2.2.1, (y46.2.2.2.2.1.2.2.2.2.2.2.1, ())))))), (y46.2.2.2.2.1.2.2.2.2.2.2.2.1, (y46.2.2.2.2.1.2.2.2.2.2.2.2.2.1, (y46.2.2.2.2.1.2.2.2.2.2.2.2.2.2.1, (y46.2.2.2.2.1.2.2.2.2.2.2.2.2.2.2.1, ())))))), (wr IntKind.i64 ((wr IntKind.i64 ((30 : Int) + y46.2.2.1)) + y46.2.2.2.1)), (0 : Int), ())))))) else (if (!y46.2.2.2.2.2.1) = true then (some (((0 : Int), (((0 : Int), ((0 : Int), ((0 : Int), ((0 : Int), ((0 : Int), ((0 : Int), ())))))), ((0 : Int), ((0 : Int), ((0 : Int), (ByteArray.empty, ())))))), (0 : Int), (41 : Int), ())) else (ref16_Check.f n (y46.2.2.2.2.1.2.2.2.2.2.2.2.2.2.2.1, ())).bind (fun y52 => (if (y52.1 != (0 : Int)) = true then (some (((0 : Int), (((0 : Int), ((0 : Int), ((0 : Int), ((0 : Int), ((0 : Int), ((0 : Int), ())))))), ((0 : Int), ((0 : Int), ((0 : Int), (ByteArray.empty, ())))))), (0 : Int), y52.1, ())) else (some ((y46.2.2.2.2.1.1, ((y46.2.2.2.2.1.2.1, (y46.2.2.2.2.1.2.2.1, (y46.2.2.2.2.1.2.2.2.1, (y46.2.2.2.2.1.2.2.2.2.1, (y46.2.2.2.2.1.2.2.2.2.2.1, (y46.2.2.2.2.1.2.2.2.2.2.2.1, ())))))), (y46.2.2.2.2.1.2.2.2.2.2.2.2.1, (y46.2.2.2.2.1.2.2.2.2.2.2.2.2.1, (y46.2.2.2.2.1.2.2.2.2.2.2.2.2.2.1, (y46.2.2.2.2.1.2.2.2.2.2.2.2.2.2.2.1, ())))))), (wr IntKind.i64 ((wr IntKind.i64 ((30 : Int) + y46.2.2.1)) + y46.2.2.2.1)), (0 : Int), ())))))))) else none) else none) = some (tlV n (hOf y46.2.2.2.2.1) y46.2.2.2.2.2.1 (y46.2.2.2.2.2.2.1 = y46.1.take (30 + y46.2.2.1 + y46.2.2.2.1).toNat) (30 + y46.2.2.1 + y46.2.2.2.1)) := by
  obtain ⟨b, z, N, M, h, ok, again, u⟩ := y46
  dsimp only at hN hM hlen hl ha ⊢
  have e1 : wr .i64 (30 + N) = 30 + N := wr64 (by omega) (by omega)
  have e2 : wr .i64 (30 + N + M) = 30 + N + M := wr64 (by omega) (by omega)
  have hc : ref16_Check.f n (h.2.2.2.2.2.2.2.2.2.2.1, ()) = some (nmV n h.2.2.2.2.2.2.2.2.2.2.1, ()) := rname_is hn (h.2.2.2.2.2.2.2.2.2.2.1, ())
  rw [e1, e2, if_pos (by omega), if_pos (by omega), List.drop_zero, same_is ha (by omega), Option.bind_some]
  unfold tlV
  by_cases hS : again = b.take (30 + N + M).toNat
  · rw [if_neg (by simp [hS]), if_pos hS]
    show _ = some (if h.1 ≠ 0 ∧ h.1 ≠ 8 then (zH, 0, 43, ()) else if ok = false then (zH, 0, 41, ()) else if nmV n h.2.2.2.2.2.2.2.2.2.2.1 ≠ 0 then (zH, 0, nmV n h.2.2.2.2.2.2.2.2.2.2.1, ()) else (hOf h, 30 + N + M, 0, ()))
    by_cases m0 : h.1 = 0
    · rw [if_neg (by simp [m0]), if_neg (show ¬ (h.1 ≠ 0 ∧ h.1 ≠ 8) by omega)]
      cases ok with
      | false => rfl
      | true =>
        rw [if_neg (show ¬ ((!true) = true) by decide), hc, Option.bind_some, if_neg (show ¬ (true = false) by decide)]
        by_cases c : nmV n h.2.2.2.2.2.2.2.2.2.2.1 = 0
        · rw [if_neg (by simp [c]), if_neg (by simp [c])]; rfl
        · rw [if_pos (by simp [c]), if_pos c]; rfl
    · rw [if_pos (by simp [m0])]
      by_cases m8 : h.1 = 8
      · rw [if_neg (by simp [m8]), if_neg (show ¬ (h.1 ≠ 0 ∧ h.1 ≠ 8) by omega)]
        cases ok with
        | false => rfl
        | true =>
          rw [if_neg (show ¬ ((!true) = true) by decide), hc, Option.bind_some, if_neg (show ¬ (true = false) by decide)]
          by_cases c : nmV n h.2.2.2.2.2.2.2.2.2.2.1 = 0
          · rw [if_neg (by simp [c]), if_neg (by simp [c])]; rfl
          · rw [if_pos (by simp [c]), if_pos c]; rfl
      · rw [if_pos (by simp [m8]), if_pos ⟨m0, m8⟩]; rfl
  · rw [if_pos (by simp [hS]), if_neg hS]; rfl
end Go.Proofs.YtdbaglogmdkbpaaDoor.Vm
namespace Go.Proofs.YtdbaglogmdkbpaaDoor.Vm
open Go Go.RowKit
set_option linter.unusedVariables false
set_option linter.unusedSimpArgs false
set_option maxRecDepth 100000
theorem pl0 {n m k : Nat} (b : List Int) (z : (Int × Int × Int × Int × Int × Int × Int × Int × Int × Int × ByteArray × Unit)) (N M : Int) (h : (Int × Int × Int × Int × Int × Int × Int × Int × Int × Int × ByteArray × Unit)) (ok : Bool) (ag : List Int) (hb : 14 ≤ b.length) (ha : 14 ≤ ag.length) : ref18_Parse.l0 n m (k + 1 + 1 + 1 + 1 + 1) (b, z, N, M, h, ok, ag, 10, ()) = some (b, z, N, M, h, ok, (((ag.set 10 (b.getD 10 0)).set 11 (b.getD 11 0)).set 12 (b.getD 12 0)).set 13 (b.getD 13 0), ()) := by
  obtain ⟨z0, z1, z2, z3, z4, z5, z6, z7, z8, z9, z10, zu⟩ := z
  obtain ⟨h0, h1, h2, h3, h4, h5, h6, h7, h8, h9, h10, hu⟩ := h
  rw [ref18_Parse.l0_eq, if_pos (by decide), if_pos (by decide), if_pos (by omega), if_pos (by decide), if_pos (by omega), show wr .i64 (10 + 1) = 11 from rfl,
    ref18_Parse.l0_eq, if_pos (by decide), if_pos (by decide), if_pos (by omega), if_pos (by decide), if_pos (by rw [List.length_set]; omega), show wr .i64 (11 + 1) = 12 from rfl,
    ref18_Parse.l0_eq, if_pos (by decide), if_pos (by decide), if_pos (by omega), if_pos (by decide), if_pos (by rw [List.length_set, List.length_set]; omega), show wr .i64 (12 + 1) = 13 from rfl,
    ref18_Parse.l0_eq, if_pos (by decide), if_pos (by decide), if_pos (by omega), if_pos (by decide), if_pos (by rw [List.length_set, List.length_set, List.length_set]; omega), show wr .i64 (13 + 1) = 14 from rfl,
    ref18_Parse.l0_eq, if_neg (by decide)]
  rfl
theorem pcont {n : Nat} (hn : 1000 ≤ n) (hn' : n ≤ 1000000) {a0 : List Int} (hb : By a0) (h30 : 30 ≤ a0.length) (hl : a0.length ≤ 400) (hlen : 30 + gt a0 26 2 + gt a0 28 2 ≤ a0.length) (y34 y35 y36 y37 y40 y41 : Int × Unit) (e34 : y34.1 = gt a0 26 2) (e35 : y35.1 = gt a0 28 2) (e36 : y36.1 = gt a0 8 2) (e37 : y37.1 = gt a0 14 4) (r40 : 0 ≤ y40.1 ∧ y40.1 < 18446744073709551616) (r41 : 0 ≤ y41.1 ∧ y41.1 < 18446744073709551616) :
    (ref18_at.f n (a0, (12 : Int), (2 : Int), ())).bind (fun y42 => (ref18_at.f n (a0, (10 : Int), (2 : Int), ())).bind (fun y43 => (ref17_Unpack.f n ((wr IntKind.u16 y42.1), (wr IntKind.u16 y43.1), ())).bind (fun y44 => (ref18_bytes.f n (((wr IntKind.i64 y36.1), (y44.1, ((wr IntKind.u32 y37.1), (y41.1, (y40.1, ((strOf (List.drop (Int.toNat (30 : Int)) (List.take (Int.toNat (wr IntKind.i64 ((30 : Int) + (wr IntKind.i64 y34.1)))) a0))), ())))))), ())).bind (fun y45 => (if 0 ≤ (8 : Int) then (if (8 : Int) < ((List.length a0 : Nat) : Int) then (if 0 ≤ (8 : Int) then (if (8 : Int) < ((List.length y45.1 : Nat) : Int) then (if 0 ≤ (9 : Int) then (if (9 : Int) < ((List.length a0 : Nat) : Int) then (if 0 ≤ (9 : Int) then (if (9 : Int) < ((List.length (List.set y45.1 (Int.toNat (8 : Int)) (List.getD a0 (Int.toNat (8 : Int)) (0 : Int))) : Nat) : Int) then (ref18_Parse.l0 n n n (a0, ((0 : Int), (0 : Int), (0 : Int), (0 : Int), (0 : Int), (0 : Int), (0 : Int), (0 : Int), (0 : Int), (0 : Int), ByteArray.empty, ()), (wr IntKind.i64 y34.1), (wr IntKind.i64 y35.1), ((wr IntKind.i64 y36.1), y44.1.1, y44.1.2.1, y44.1.2.2.1, y44.1.2.2.2.1, y44.1.2.2.2.2.1, y44.1.2.2.2.2.2.1, (wr IntKind.u32 y37.1), y41.1, y40.1, (strOf (List.drop (Int.toNat (30 : Int)) (List.take (Int.toNat (wr IntKind.i64 ((30 : Int) + (wr IntKind.i64 y34.1)))) a0))), ()), y44.2.1, (List.set (List.set y45.1 (Int.toNat (8 : Int)) (List.getD a0 (Int.toNat (8 : Int)) (0 : Int))) (Int.toNat (9 : Int)) (List.getD a0 (Int.toNat (9 : Int)) (0 : Int))), (10 : Int), ())).bind (fun y46 => (if (y46.2.2.2.1 != (0 : Int)) = true then (if (y46.2.2.2.1 != (20 : Int)) = true then (some (((0 : Int), (((0 : Int), ((0 : Int), ((0 : Int), ((0 : Int), ((0 : Int), ((0 : Int), ())))))), ((0 : Int), ((0 : Int), ((0 : Int), (ByteArray.empty, ())))))), (0 : Int), (21 : Int), ())) else (if 0 ≤ (wr IntKind.i64 ((wr IntKind.i64 ((30 : Int) + y46.2.2.1)) + y46.2.2.2.1)) then (if (wr IntKind.i64 ((wr IntKind.i64 ((30 : Int) + y46.2.2.1)) + y46.2.2.2.1)) ≤ (((List.length y46.1) : Nat) : Int) then (ref01_Same.f n (y46.2.2.2.2.2.2.1, (List.drop 0 (List.take (Int.toNat (wr IntKind.i64 ((wr IntKind.i64 ((30 : Int) + y46.2.2.1)) + y46.2.2.2.1))) y46.1)), ())).bind (fun y47 => (if (!y47.1) = true then (some (((0 : Int), (((0 : Int), ((0 : Int), ((0 : Int), ((0 : Int), ((0 : Int), ((0 : Int), ())))))), ((0 : Int), ((0 : Int), ((0 : Int), (ByteArray.empty, ())))))), (0 : Int), (21 : Int), ())) else (if (y46.2.2.2.2.1.1 != (0 : Int)) = true then (if (y46.2.2.2.2.1.1 != (8 : Int)) = true then (some (((0 : Int), (((0 : Int), ((0 : Int), ((0 : Int), ((0 : Int), ((0 : Int), ((0 : Int), ())))))), ((0 : Int), ((0 : Int), ((0 : Int), (ByteArray.empty, ())))))), (0 : Int), (43 : Int), ())) else (if (!y46.2.2.2.2.2.1) = true then (some (((0 : Int), (((0 : Int), ((0 : Int), ((0 : Int), ((0 : Int), ((0 : Int), ((0 : Int), ())))))), ((0 : Int), ((0 : Int), ((0 : Int), (ByteArray.empty, ())))))), (0 : Int), (41 : Int), ())) else (ref16_Check.f n (y46.2.2.2.2.1.2.2.2.2.2.2.2.2.2.2.1, ())).bind (fun y48 => (if (y48.1 != (0 : Int)) = true then (some (((0 : Int), (((0 : Int), ((0 : Int), ((0 : Int), ((0 : Int), ((0 : Int), ((0 : Int), ())))))), ((0 : Int), ((0 : Int), ((0 : Int), (ByteArray.empty, ())))))), (0 : Int), y48.1, ())) else (some ((y46.2.2.2.2.1.1, ((y46.2.2.2.2.1.2.1, (y46.2.2.2.2.1.2.2.1, (y46.2.2.2.2.1.2.2.2.1, (y46.2.2.2.2.1.2.2.2.2.1, (y46.2.2.2.2.1.2.2.2.2.2.1, (y46.2.2.2.2.1.2.2.2.2.2.2.1, ())))))), (y46.2.2.2.2.1.2.2.2.2.2.2.2.1, (y46.2.2.2.2.1.2.2.2.2.2.2.2.2.1, (y46.2.2.2.2.1.2.2.2.2.2.2.2.2.2.1, (y46.2.2.2.2.1.2.2.2.2.2.2.2.2.2.2.1, ())))))), (wr IntKind.i64 ((wr IntKind.i64 ((30 : Int) + y46.2.2.1)) + y46.2.2.2.1)), (0 : Int), ())))))) else (if (!y46.2.2.2.2.2.1) = true then (some (((0 : Int), (((0 : Int), ((0 : Int), ((0 : Int), ((0 : Int), ((0 : Int), ((0 : Int), ())))))), ((0 : Int), ((0 : Int), ((0 : Int), (ByteArray.empty, ())))))), (0 : Int), (41 : Int), ())) else (ref16_Check.f n (y46.2.2.2.2.1.2.2.2.2.2.2.2.2.2.2.1, ())).bind (fun y49 => (if (y49.1 != (0 : Int)) = true then (some (((0 : Int), (((0 : Int), ((0 : Int), ((0 : Int), ((0 : Int), ((0 : Int), ((0 : Int), ())))))), ((0 : Int), ((0 : Int), ((0 : Int), (ByteArray.empty, ())))))), (0 : Int), y49.1, ())) else (some ((y46.2.2.2.2.1.1, ((y46.2.2.2.2.1.2.1, (y46.2.2.2.2.1.2.2.1, (y46.2.2.2.2.1.2.2.2.1, (y46.2.2.2.2.1.2.2.2.2.1, (y46.2.2.2.2.1.2.2.2.2.2.1, (y46.2.2.2.2.1.2.2.2.2.2.2.1, ())))))), (y46.2.2.2.2.1.2.2.2.2.2.2.2.1, (y46.2.2.2.2.1.2.2.2.2.2.2.2.2.1, (y46.2.2.2.2.1.2.2.2.2.2.2.2.2.2.1, (y46.2.2.2.2.1.2.2.2.2.2.2.2.2.2.2.1, ())))))), (wr IntKind.i64 ((wr IntKind.i64 ((30 : Int) + y46.2.2.1)) + y46.2.2.2.1)), (0 : Int), ())))))))) else none) else none)) else (if 0 ≤ (wr IntKind.i64 ((wr IntKind.i64 ((30 : Int) + y46.2.2.1)) + y46.2.2.2.1)) then (if (wr IntKind.i64 ((wr IntKind.i64 ((30 : Int) + y46.2.2.1)) + y46.2.2.2.1)) ≤ (((List.length y46.1) : Nat) : Int) then (ref01_Same.f n (y46.2.2.2.2.2.2.1, (List.drop 0 (List.take (Int.toNat (wr IntKind.i64 ((wr IntKind.i64 ((30 : Int) + y46.2.2.1)) + y46.2.2.2.1))) y46.1)), ())).bind (fun y50 => (if (!y50.1) = true then (some (((0 : Int), (((0 : Int), ((0 : Int), ((0 : Int), ((0 : Int), ((0 : Int), ((0 : Int), ())))))), ((0 : Int), ((0 : Int), ((0 : Int), (ByteArray.empty, ())))))), (0 : Int), (21 : Int), ())) else (if (y46.2.2.2.2.1.1 != (0 : Int)) = true then (if (y46.2.2.2.2.1.1 != (8 : Int)) = true then (some (((0 : Int), (((0 : Int), ((0 : Int), ((0 : Int), ((0 : Int), ((0 : Int), ((0 : Int), ())))))), ((0 : Int), ((0 : Int), ((0 : Int), (ByteArray.empty, ())))))), (0 : Int), (43 : Int), ())) else (if (!y46.2.2.2.2.2.1) = true then (some (((0 : Int), (((0 : Int), ((0 : Int), ((0 : Int), ((0 : Int), ((0 : Int), ((0 : Int), ())))))), ((0 : Int), ((0 : Int), ((0 : Int), (ByteArray.empty, ())))))), (0 : Int), (41 : Int), ())) else (ref16_Check.f n (y46.2.2.2.2.1.2.2.2.2.2.2.2.2.2.2.1, ())).bind (fun y51 => (if (y51.1 != (0 : Int)) = true then (some (((0 : Int), (((0 : Int), ((0 : Int), ((0 : Int), ((0 : Int), ((0 : Int), ((0 : Int), ())))))), ((0 : Int), ((0 : Int), ((0 : Int), (ByteArray.empty, ())))))), (0 : Int), y51.1, ())) else (some ((y46.2.2.2.2.1.1, ((y46.2.2.2.2.1.2.1, (y46.2.2.2.2.1.2.2.1, (y46.2.2.2.2.1.2.2.2.1, (y46.2.2.2.2.1.2.2.2.2.1, (y46.2.2.2.2.1.2.2.2.2.2.1, (y46.2.2.2.2.1.2.2.2.2.2.2.1, ())))))), (y46.2.2.2.2.1.2.2.2.2.2.2.2.1, (y46.2.2.2.2.1.2.2.2.2.2.2.2.2.1, (y46.2.2.2.2.1.2.2.2.2.2.2.2.2.2.1, (y46.2.2.2.2.1.2.2.2.2.2.2.2.2.2.2.1, ())))))), (wr IntKind.i64 ((wr IntKind.i64 ((30 : Int) + y46.2.2.1)) + y46.2.2.2.1)), (0 : Int), ())))))) else (if (!y46.2.2.2.2.2.1) = true then (some (((0 : Int), (((0 : Int), ((0 : Int), ((0 : Int), ((0 : Int), ((0 : Int), ((0 : Int), ())))))), ((0 : Int), ((0 : Int), ((0 : Int), (ByteArray.empty, ())))))), (0 : Int), (41 : Int), ())) else (ref16_Check.f n (y46.2.2.2.2.1.2.2.2.2.2.2.2.2.2.2.1, ())).bind (fun y52 => (if (y52.1 != (0 : Int)) = true then (some (((0 : Int), (((0 : Int), ((0 : Int), ((0 : Int), ((0 : Int), ((0 : Int), ((0 : Int), ())))))), ((0 : Int), ((0 : Int), ((0 : Int), (ByteArray.empty, ())))))), (0 : Int), y52.1, ())) else (some ((y46.2.2.2.2.1.1, ((y46.2.2.2.2.1.2.1, (y46.2.2.2.2.1.2.2.1, (y46.2.2.2.2.1.2.2.2.1, (y46.2.2.2.2.1.2.2.2.2.1, (y46.2.2.2.2.1.2.2.2.2.2.1, (y46.2.2.2.2.1.2.2.2.2.2.2.1, ())))))), (y46.2.2.2.2.1.2.2.2.2.2.2.2.1, (y46.2.2.2.2.1.2.2.2.2.2.2.2.2.1, (y46.2.2.2.2.1.2.2.2.2.2.2.2.2.2.1, (y46.2.2.2.2.1.2.2.2.2.2.2.2.2.2.2.1, ())))))), (wr IntKind.i64 ((wr IntKind.i64 ((30 : Int) + y46.2.2.1)) + y46.2.2.2.1)), (0 : Int), ())))))))) else none) else none))) else none) else none) else none) else none) else none) else none) else none) else none))))) = some (if gt a0 28 2 ≠ 0 ∧ gt a0 28 2 ≠ 20 then (zH, 0, 21, ()) else tlV n (hdV a0 y41.1 y40.1) (decide (StOk (unS (gt a0 12 2) (gt a0 10 2)))) (rB (hdV a0 y41.1 y40.1) (gt a0 8 2) (gt a0 10 2) (gt a0 12 2) = a0.take (30 + gt a0 26 2 + gt a0 28 2).toNat) (30 + gt a0 26 2 + gt a0 28 2)) := by
  have r8 := gt2 hb 8
  have r10 := gt2 hb 10
  have r12 := gt2 hb 12
  have r14 := gt4 hb 14
  have r26 := gt2 hb 26
  have r28 := gt2 hb 28
  have hN : (nlN a0 : Int) = gt a0 26 2 := by unfold nlN; omega
  rw [e34, e35, e36, e37]
  have w26 : wr .i64 (gt a0 26 2) = gt a0 26 2 := wr64 (by omega) (by omega)
  have w28 : wr .i64 (gt a0 28 2) = gt a0 28 2 := wr64 (by omega) (by omega)
  have w8 : wr .i64 (gt a0 8 2) = gt a0 8 2 := wr64 (by omega) (by omega)
  have w14 : wr .u32 (gt a0 14 4) = gt a0 14 4 := by rw [wru32]; omega
  have w12 : wr .u16 (gt a0 12 2) = gt a0 12 2 := by rw [wru16]; omega
  have w10 : wr .u16 (gt a0 10 2) = gt a0 10 2 := by rw [wru16]; omega
  have w30 : wr .i64 (30 + gt a0 26 2) = ((30 + nlN a0 : Nat) : Int) := by rw [wr64 (by omega) (by omega)]; omega
  have hnl : (nmB a0).length = nlN a0 := by unfold nmB; rw [List.length_take, List.length_drop]; omega
  have hnm : List.drop (Int.toNat 30) (List.take (Int.toNat ((30 + nlN a0 : Nat) : Int)) a0) = nmB a0 := by
    rw [Int.toNat_natCast, show Int.toNat 30 = 30 from rfl, cut_is]; rfl
  rw [w26, w28, w8, w14, w30, hnm]
  have a12 := at2 hn hb (by omega) (i := 12) (by omega)
  have a10 := at2 hn hb (by omega) (i := 10) (by omega)
  refine (congrArg (Option.bind · _) a12).trans ?_
  rw [Option.bind_some]
  refine (congrArg (Option.bind · _) a10).trans ?_
  rw [Option.bind_some]
  dsimp only
  rw [w12, w10, runpack_is n _ _ r12.1 r12.2 r10.1 r10.2, Option.bind_some]
  have hk : HdOk (hdV a0 y41.1 y40.1) := ⟨r14, r41, r40⟩
  have hsz : (hdV a0 y41.1 y40.1).2.2.2.2.2.1.size = nlN a0 := by show (strOf (nmB a0)).size = _; rw [str_size, hnl]
  obtain ⟨d, t, hdt⟩ := rpack_any n (hdV a0 y41.1 y40.1).2.1
  have hby := rbytes_is hn hn' (hdV a0 y41.1 y40.1) hk (by omega) hdt
  refine (congrArg (Option.bind · _) hby).trans ?_
  rw [Option.bind_some]
  have hal := rB_len (hdV a0 y41.1 y40.1) (wr .u64 (hdV a0 y41.1 y40.1).1) (wr .u64 t) (wr .u64 d)
  have hal30 : 30 ≤ (rB (hdV a0 y41.1 y40.1) (wr .u64 (hdV a0 y41.1 y40.1).1) (wr .u64 t) (wr .u64 d)).length := by omega
  have hal2 : (rB (hdV a0 y41.1 y40.1) (gt a0 8 2) (gt a0 10 2) (gt a0 12 2)).length < n := by rw [rB_len]; split <;> omega
  have hset := set_is hb h30 (hdV a0 y41.1 y40.1) (wr .u64 (hdV a0 y41.1 y40.1).1) (wr .u64 t) (wr .u64 d)
  obtain ⟨ag, hag⟩ : ∃ ag, ag = rB (hdV a0 y41.1 y40.1) (wr .u64 (hdV a0 y41.1 y40.1).1) (wr .u64 t) (wr .u64 d) := ⟨_, rfl⟩
  rw [← hag] at hset hal30 ⊢
  dsimp only
  rw [if_pos (by decide), if_pos (by omega), if_pos (by decide), if_pos (by omega), if_pos (by decide), if_pos (by omega), if_pos (by decide), if_pos (by rw [List.length_set]; omega)]
  obtain ⟨k, rfl⟩ : ∃ k, n = k + 1 + 1 + 1 + 1 + 1 := ⟨n - 5, by omega⟩
  refine (congrArg (Option.bind · _) (pl0 a0 _ _ _ _ _ _ (by omega) (by rw [List.length_set, List.length_set]; omega))).trans ?_
  rw [Option.bind_some, show Int.toNat 8 = 8 from rfl, show Int.toNat 9 = 9 from rfl, hset]
  dsimp only
  by_cases x0 : gt a0 28 2 = 0
  · rw [if_neg (by simp [x0]), if_neg (show ¬ (gt a0 28 2 ≠ 0 ∧ gt a0 28 2 ≠ 20) from fun hh => hh.1 x0)]
    exact ptail hn hn' (a0, _, gt a0 26 2, gt a0 28 2, ((hdV a0 y41.1 y40.1).1, (hdV a0 y41.1 y40.1).2.1.1, (hdV a0 y41.1 y40.1).2.1.2.1, (hdV a0 y41.1 y40.1).2.1.2.2.1, (hdV a0 y41.1 y40.1).2.1.2.2.2.1, (hdV a0 y41.1 y40.1).2.1.2.2.2.2.1, (hdV a0 y41.1 y40.1).2.1.2.2.2.2.2.1, (hdV a0 y41.1 y40.1).2.2.1, y41.1, y40.1, strOf (nmB a0), ()), decide (StOk (unS (gt a0 12 2) (gt a0 10 2))), rB (hdV a0 y41.1 y40.1) (gt a0 8 2) (gt a0 10 2) (gt a0 12 2), ()) r26.1 r28.1 hlen (by show a0.length ≤ 1000000; omega) hal2
  · rw [if_pos (by simp [x0])]
    by_cases x20 : gt a0 28 2 = 20
    · rw [if_neg (by simp [x20]), if_neg (show ¬ (gt a0 28 2 ≠ 0 ∧ gt a0 28 2 ≠ 20) from fun hh => hh.2 x20)]
      exact ptail hn hn' (a0, _, gt a0 26 2, gt a0 28 2, ((hdV a0 y41.1 y40.1).1, (hdV a0 y41.1 y40.1).2.1.1, (hdV a0 y41.1 y40.1).2.1.2.1, (hdV a0 y41.1 y40.1).2.1.2.2.1, (hdV a0 y41.1 y40.1).2.1.2.2.2.1, (hdV a0 y41.1 y40.1).2.1.2.2.2.2.1, (hdV a0 y41.1 y40.1).2.1.2.2.2.2.2.1, (hdV a0 y41.1 y40.1).2.2.1, y41.1, y40.1, strOf (nmB a0), ()), decide (StOk (unS (gt a0 12 2) (gt a0 10 2))), rB (hdV a0 y41.1 y40.1) (gt a0 8 2) (gt a0 10 2) (gt a0 12 2), ()) r26.1 r28.1 hlen (by show a0.length ≤ 1000000; omega) hal2
    · rw [if_pos (by simp [x20]), if_pos (show gt a0 28 2 ≠ 0 ∧ gt a0 28 2 ≠ 20 from ⟨x0, x20⟩)]
      rfl
end Go.Proofs.YtdbaglogmdkbpaaDoor.Vm
namespace Go.Proofs.YtdbaglogmdkbpaaDoor.Vm
open Go Go.RowKit
set_option linter.unusedVariables false
set_option linter.unusedSimpArgs false
set_option maxRecDepth 100000
theorem tail_prV {n : Nat} {b : List Int} (hb : By b) (h30 : 30 ≤ b.length) (h0 : gt b 0 4 = 67324752) (hlen : 30 + gt b 26 2 + gt b 28 2 ≤ b.length) {p s : Int} (hps : (gt b 28 2 = 20 ∧ p = gt b (42 + nlN b) 8 ∧ s = gt b (34 + nlN b) 8) ∨ (gt b 28 2 ≠ 20 ∧ p = gt b 18 4 ∧ s = gt b 22 4)) :
    (if gt b 28 2 ≠ 0 ∧ gt b 28 2 ≠ 20 then (zH, 0, 21, ()) else tlV n (hdV b p s) (decide (StOk (unS (gt b 12 2) (gt b 10 2)))) (rB (hdV b p s) (gt b 8 2) (gt b 10 2) (gt b 12 2) = b.take (30 + gt b 26 2 + gt b 28 2).toNat) (30 + gt b 26 2 + gt b 28 2)) =
    (match mrV b with
    | none => (zH, 0, 21, ())
    | some (p, s) => if gt b 6 2 ≠ 2048 then (zH, 0, 21, ())
      else if chkV n (hdV b p s) = 43 then (zH, 0, 43, ())
      else if ¬ StOk (unS (gt b 12 2) (gt b 10 2)) then (zH, 0, 41, ())
      else if chkV n (hdV b p s) ≠ 0 then (zH, 0, chkV n (hdV b p s), ())
      else (hdV b p s, 30 + gt b 26 2 + gt b 28 2, 0, ())) := by
  by_cases hx : gt b 28 2 ≠ 0 ∧ gt b 28 2 ≠ 20
  · have hm : mrV b = none := by unfold mrV; rw [if_neg hx.1, if_neg (fun h => hx.2 h.1)]
    rw [if_pos hx, hm]
  · rw [if_neg hx]
    have he : gt b 28 2 = 0 ∨ gt b 28 2 = 20 := by omega
    have hiff := same_iff hb h30 (hdV b p s) h0 hlen he rfl rfl hps
    unfold tlV
    by_cases hS : rB (hdV b p s) (gt b 8 2) (gt b 10 2) (gt b 12 2) = b.take (30 + gt b 26 2 + gt b 28 2).toNat
    · obtain ⟨k1, k2⟩ := hiff.1 hS
      have k1' : mrV b = some (p, s) := k1
      rw [if_pos hS, k1']
      dsimp only
      rw [if_neg (not_not_intro k2)]
      have hc : chkV n (hdV b p s) = if (hdV b p s).1 ≠ 0 ∧ (hdV b p s).1 ≠ 8 then 43 else if StOk (hdV b p s).2.1 then nmV n (hdV b p s).2.2.2.2.2.1 else 41 := rfl
      by_cases m : (hdV b p s).1 ≠ 0 ∧ (hdV b p s).1 ≠ 8
      · rw [if_pos m] at hc ⊢
        rw [hc, if_pos rfl]
      · rw [if_neg m] at hc ⊢
        by_cases st : StOk (unS (gt b 12 2) (gt b 10 2))
        · have hT : (hdV b p s).2.1 = unS (gt b 12 2) (gt b 10 2) := if_pos st
          rw [hT, if_pos st] at hc
          rw [hc, decide_eq_true st, if_neg (show ¬ (true = false) by decide)]
          have h43 : nmV n (hdV b p s).2.2.2.2.2.1 ≠ 43 := by
            unfold nmV Nm.checkN
            by_cases hz : (hdV b p s).2.2.2.2.2.1.size = 0 ∨ 255 < (hdV b p s).2.2.2.2.2.1.size
            · rw [if_pos hz]; exact (by decide : (40 : Int) ≠ 43)
            · rw [if_neg hz]
              cases Nm.scan (fun c => some (mayV c)) n (hdV b p s).2.2.2.2.2.1 0 with
              | none => exact (by decide : (40 : Int) ≠ 43)
              | some x =>
                cases x with
                | false => exact (by decide : (40 : Int) ≠ 43)
                | true =>
                  rw [Option.bind_some, if_pos rfl]
                  cases Nm.chk (fun t => some (partV t)) n (hdV b p s).2.2.2.2.2.1 with
                  | none => exact (by decide : (40 : Int) ≠ 43)
                  | some y => cases y <;> first | exact (by decide : (40 : Int) ≠ 43) | exact (by decide : (0 : Int) ≠ 43)
          rw [if_neg h43, if_neg (not_not_intro st)]
        · rw [decide_eq_false st, if_pos rfl]
          have hT : (hdV b p s).2.1 = zS := if_neg st
          have hz : ¬ StOk zS := by decide
          rw [hT, if_neg hz] at hc
          rw [hc, if_neg (show ¬ ((41 : Int) = 43) by decide), if_pos st]
    · rw [if_neg hS]
      cases hm : mrV b with
      | none => rfl
      | some q =>
        obtain ⟨p', s'⟩ := q
        dsimp only
        by_cases h6 : gt b 6 2 = 2048
        · exfalso
          refine hS (hiff.2 ⟨?_, h6⟩)
          rw [hm]
          unfold mrV at hm
          by_cases x0 : gt b 28 2 = 0
          · rw [if_pos x0] at hm
            split at hm
            · cases hm
              rcases hps with ⟨y, _, _⟩ | ⟨_, y2, y3⟩
              · omega
              · show some (gt b 18 4, gt b 22 4) = some (p, s)
                rw [y2, y3]
            · cases hm
          · rw [if_neg x0] at hm
            split at hm
            · rename_i x1
              cases hm
              rcases hps with ⟨_, y2, y3⟩ | ⟨y, _, _⟩
              · show some (gt b (42 + nlN b) 8, gt b (34 + nlN b) 8) = some (p, s)
                rw [y2, y3]
              · exact absurd x1.1 y
            · cases hm
        · rw [if_pos h6]
theorem rparse_is {n : Nat} (hn : 1000 ≤ n) (hn' : n ≤ 1000000) {b : List Int} (hb : By b) (hl : b.length ≤ 400) : ref18_Parse.f n (b, ()) = some (prV n b) := by
  rw [ref18_Parse.eq]
  unfold prV
  by_cases h4 : b.length < 4
  · rw [if_pos (by simp; omega), if_pos (.inl h4)]; rfl
  rw [if_neg (by simp; omega)]
  have a0 := at4 hn hb (by omega) (i := 0) (by omega)
  refine (congrArg (Option.bind · _) a0).trans ?_
  rw [Option.bind_some]
  by_cases hs : ¬ gt b 0 4 = 67324752
  · rw [if_pos (by simp [hs]), if_pos (.inr hs)]; rfl
  have hs := Decidable.of_not_not hs
  rw [if_neg (by simp [hs]), if_neg (show ¬ (b.length < 4 ∨ gt b 0 4 ≠ 67324752) by omega)]
  by_cases h30 : b.length < 30
  · rw [if_pos (by simp; omega), if_pos (.inl h30)]; rfl
  rw [if_neg (by simp; omega)]
  have r26 := gt2 hb 26
  have r28 := gt2 hb 28
  have r18 := gt4 hb 18
  have r22 := gt4 hb 22
  have hN : (nlN b : Int) = gt b 26 2 := by unfold nlN; omega
  have w26 : wr .i64 (gt b 26 2) = gt b 26 2 := wr64 (by omega) (by omega)
  have w28 : wr .i64 (gt b 28 2) = gt b 28 2 := wr64 (by omega) (by omega)
  have a26 := at2 hn hb (by omega) (i := 26) (by omega)
  have a28 := at2 hn hb (by omega) (i := 28) (by omega)
  refine (congrArg (Option.bind · _) a26).trans ?_
  rw [Option.bind_some]
  refine (congrArg (Option.bind · _) a28).trans ?_
  rw [Option.bind_some]
  have e1 : wr .i64 (30 + wr .i64 (gt b 26 2)) = 30 + gt b 26 2 := by rw [w26, wr64 (by omega) (by omega)]
  have e2 : wr .i64 (wr .i64 (30 + wr .i64 (gt b 26 2)) + wr .i64 (gt b 28 2)) = 30 + gt b 26 2 + gt b 28 2 := by rw [e1, w28, wr64 (by omega) (by omega)]
  by_cases hle : (b.length : Int) < 30 + gt b 26 2 + gt b 28 2
  · rw [if_pos (by show decide ((b.length : Int) < wr .i64 (wr .i64 (30 + wr .i64 (gt b 26 2)) + wr .i64 (gt b 28 2))) = true; rw [e2]; simpa using hle), if_pos (.inr hle)]; rfl
  rw [if_neg (by show ¬ decide ((b.length : Int) < wr .i64 (wr .i64 (30 + wr .i64 (gt b 26 2)) + wr .i64 (gt b 28 2))) = true; rw [e2]; simpa using hle), if_neg (show ¬ (b.length < 30 ∨ (b.length : Int) < 30 + gt b 26 2 + gt b 28 2) by omega)]
  rw [if_pos (by decide), if_pos (by show 30 ≤ wr .i64 (30 + wr .i64 (gt b 26 2)); rw [e1]; omega), if_pos (by show wr .i64 (30 + wr .i64 (gt b 26 2)) ≤ (b.length : Int); rw [e1]; omega)]
  have a8 := at2 hn hb (by omega) (i := 8) (by omega)
  have a14 := at4 hn hb (by omega) (i := 14) (by omega)
  have a18 := at4 hn hb (by omega) (i := 18) (by omega)
  have a22 := at4 hn hb (by omega) (i := 22) (by omega)
  refine (congrArg (Option.bind · _) a8).trans ?_
  rw [Option.bind_some]
  refine (congrArg (Option.bind · _) a14).trans ?_
  rw [Option.bind_some]
  refine (congrArg (Option.bind · _) a18).trans ?_
  rw [Option.bind_some]
  refine (congrArg (Option.bind · _) a22).trans ?_
  rw [Option.bind_some]
  by_cases x20 : gt b 28 2 = 20
  · rw [if_pos (by show (wr .i64 (gt b 28 2) == 20) = true; rw [w28, x20]; rfl)]
    have i34 : wr .i64 (34 + wr .i64 (gt b 26 2)) = ((34 + nlN b : Nat) : Int) := by rw [w26, wr64 (by omega) (by omega)]; omega
    have i42 : wr .i64 (42 + wr .i64 (gt b 26 2)) = ((42 + nlN b : Nat) : Int) := by rw [w26, wr64 (by omega) (by omega)]; omega
    have a34 := at8 hn hb (by omega) (i := 34 + nlN b) (by omega)
    have a42 := at8 hn hb (by omega) (i := 42 + nlN b) (by omega)
    rw [← i34] at a34
    rw [← i42] at a42
    refine (congrArg (Option.bind · _) a34).trans ?_
    rw [Option.bind_some]
    refine (congrArg (Option.bind · _) a42).trans ?_
    rw [Option.bind_some]
    refine (pcont hn hn' hb (by omega) hl (by omega) (gt b 26 2, ()) (gt b 28 2, ()) (gt b 8 2, ()) (gt b 14 4, ()) (gt b (34 + nlN b) 8, ()) (gt b (42 + nlN b) 8, ()) rfl rfl rfl rfl (gt8 hb _) (gt8 hb _)).trans ?_
    exact congrArg some (tail_prV hb (by omega) hs (by omega) (.inl ⟨x20, rfl, rfl⟩))
  · rw [if_neg (by show ¬ (wr .i64 (gt b 28 2) == 20) = true; rw [w28]; simpa using x20)]
    refine (pcont hn hn' hb (by omega) hl (by omega) (gt b 26 2, ()) (gt b 28 2, ()) (gt b 8 2, ()) (gt b 14 4, ()) (gt b 22 4, ()) (gt b 18 4, ()) rfl rfl rfl rfl ⟨r22.1, by show gt b 22 4 < _; omega⟩ ⟨r18.1, by show gt b 18 4 < _; omega⟩).trans ?_
    exact congrArg some (tail_prV hb (by omega) hs (by omega) (.inr ⟨x20, rfl, rfl⟩))
theorem localParses {b : List Int} (hb : By b) : law18_LocalParses.f 1000 (b, ()) = some (true, ()) := by
  rw [law18_LocalParses.eq, alive18, Option.bind_some, if_neg (show ¬ ((!true) = true) by decide)]
  by_cases h1 : b.length > 400
  · rw [if_pos (decide_eq_true (by omega))]
  rw [if_neg (by simp; omega), parse_is (by decide) hb (by omega), Option.bind_some, rparse_is (by decide) (by decide) hb (by omega), Option.bind_some, if_pos (by simp), if_pos (by simp)]
  exact congrArg (fun c => some (c, ())) ((HK_iff (prV 1000 b).1 (prV 1000 b).1).2 rfl)
theorem pure_LocalParses (z0 : (Ki.list (.int .u8)).den) (f0 : KWf (.list (.int .u8)) z0) : law18_LocalParses.f 1000 (z0, ()) = some (true, ()) := localParses (by_of f0)
end Go.Proofs.YtdbaglogmdkbpaaDoor.Vm
