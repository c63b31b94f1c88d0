/- Headers: what is parsed. Conditions: as each theorem states them. -/
import Derived.Test.YtdbaglogmdkbpaaDoorK4
namespace Go.Proofs.YtdbaglogmdkbpaaDoor.Vm
open Go Go.RowKit
set_option linter.unusedVariables false
set_option linter.unusedSimpArgs false
set_option maxRecDepth 10000
def zS : Stm := (0, 0, 0, 0, 0, 0, ())
def zH : Hdr := (0, zS, 0, 0, 0, ByteArray.empty, ())
/-- how long the name is -/
def nlN (b : List Int) : Nat := (gt b 26 2).toNat
/-- the sizes, if they are told as they must be -/
def mrV (b : List Int) : Option (Int × Int) :=
  if gt b 28 2 = 0 then (if gt b 4 2 = 20 ∧ gt b 18 4 ≠ 4294967295 ∧ gt b 22 4 ≠ 4294967295 then some (gt b 18 4, gt b 22 4) else none)
  else if gt b 28 2 = 20 ∧ gt b 4 2 = 45 ∧ gt b 18 4 = 4294967295 ∧ gt b 22 4 = 4294967295 ∧ gt b (30 + nlN b) 2 = 1 ∧ gt b (32 + nlN b) 2 = 16 ∧ (4294967295 ≤ gt b (42 + nlN b) 8 ∨ 4294967295 ≤ gt b (34 + nlN b) 8) then some (gt b (42 + nlN b) 8, gt b (34 + nlN b) 8) else none
def nmB (b : List Int) : List Int := (b.drop 30).take (nlN b)
/-- the header that is told -/
def hdV (b : List Int) (p s : Int) : Hdr := (gt b 8 2, if StOk (unS (gt b 12 2) (gt b 10 2)) then unS (gt b 12 2) (gt b 10 2) else zS, gt b 14 4, p, s, strOf (nmB b), ())
def prV (n : Nat) (b : List Int) : Hdr × Int × Int × Unit :=
  if b.length < 4 ∨ gt b 0 4 ≠ 67324752 then (zH, 0, 44, ())
  else if b.length < 30 ∨ (b.length : Int) < 30 + gt b 26 2 + gt b 28 2 then (zH, 0, 20, ())
  else match mrV b with
    | none => (zH, 0, 21, ())
    | some (p, s) => if gt b 6 2 ≠ 2048 then (zH, 0, 21, ())
      else if chkV n (hdV b p s) = 43 then (zH, 0, 43, ())
      else if ¬ StOk (unS (gt b 12 2) (gt b 10 2)) then (zH, 0, 41, ())
      else if chkV n (hdV b p s) ≠ 0 then (zH, 0, chkV n (hdV b p s), ())
      else (hdV b p s, 30 + gt b 26 2 + gt b 28 2, 0, ())
section
variable {n : Nat} (hn : 1000 ≤ n) {b : List Int} (hb : By b) (hl : b.length ≤ 1000000)
include hn hb hl
/-- the ten numbers -/
def xsV (b : List Int) : Int × Int × Int × Int × Int × Int × Int × Int × Int × Int × Unit := (gt b 4 2, gt b 6 2, gt b 8 2, gt b 10 2, gt b 12 2, gt b 14 4, gt b 18 4, gt b 22 4, gt b 26 2, gt b 28 2, ())
theorem more_is (h30 : 30 ≤ b.length) (hlen : 30 + gt b 26 2 + gt b 28 2 ≤ b.length) (m s0 s1 s2 s3 s4 s5 su p s : Int) (nm : ByteArray) (hp : p = gt b 18 4) (hs : s = gt b 22 4) :
    ∃ a' : Nat, ∃ s' : Bool, ∃ p' z' : Int, ∃ ok : Bool, local_more.f n ((b, ((30 + nlN b : Nat) : Int), false, ()), xsV b, (m, s0, s1, s2, s3, s4, s5, su, p, s, nm, ()), ()) = some ((b, (a' : Int), s', ()), (m, s0, s1, s2, s3, s4, s5, su, p', z', nm, ()), ok, ()) ∧
      (match mrV b with | none => ok = false | some (q, z) => ok = true ∧ p' = q ∧ z' = z ∧ (a' : Int) = 30 + gt b 26 2 + gt b 28 2) := by
  have r26 := gt2 hb 26
  have r28 := gt2 hb 28
  have hN : (nlN b : Int) = gt b 26 2 := by unfold nlN; omega
  rw [local_more.eq]
  unfold mrV
  by_cases h0 : gt b 28 2 = 0
  · rw [if_pos (by simp [xsV, h0]), if_pos h0]
    by_cases h1 : gt b 4 2 = 20
    · rw [if_pos (by simp [xsV, h1])]
      by_cases h2 : gt b 18 4 = 4294967295
      · rw [if_neg (by simp [xsV, h2]), if_neg (by simp [h2])]
        exact ⟨_, _, _, _, _, rfl, rfl⟩
      · rw [if_pos (by simp [xsV, h2])]
        by_cases h3 : gt b 22 4 = 4294967295
        · rw [if_neg (by simp [h3])]
          exact ⟨_, _, _, _, _, rfl, by simp [xsV, h3]⟩
        · rw [if_pos ⟨h1, h2, h3⟩]
          exact ⟨_, _, _, _, _, rfl, by simp [xsV, h3], hp, hs, by omega⟩
    · rw [if_neg (by simp [xsV, h1]), if_neg (by simp [h1])]
      exact ⟨_, _, _, _, _, rfl, rfl⟩
  · rw [if_neg (by simp [xsV, h0]), if_neg h0]
    by_cases h1 : gt b 28 2 = 20
    · rw [if_neg (by simp [xsV, h1])]
      by_cases h2 : gt b 4 2 = 45
      · rw [if_neg (by simp [xsV, h2])]
        by_cases h3 : gt b 18 4 = 4294967295
        · rw [if_neg (by simp [xsV, h3])]
          by_cases h4 : gt b 22 4 = 4294967295
          · rw [if_neg (by simp [xsV, h4])]
            have g1 := num_two hn hb hl (a := 30 + nlN b) (by omega)
            have g2 := num_two hn hb hl (a := 32 + nlN b) (by omega)
            have g3 := num_eight hn hb hl (a := 34 + nlN b) (by omega)
            have g4 := num_eight hn hb hl (a := 42 + nlN b) (by omega)
            rw [show 30 + nlN b + 2 = 32 + nlN b by omega] at g1
            rw [show 32 + nlN b + 2 = 34 + nlN b by omega] at g2
            rw [show 34 + nlN b + 8 = 42 + nlN b by omega] at g3
            rw [show 42 + nlN b + 8 = 50 + nlN b by omega] at g4
            rw [g1, Option.bind_some]
            by_cases h5 : gt b (30 + nlN b) 2 = 1
            · rw [if_neg (by simp [h5])]
              show ∃ a' s' p' z' ok, (little_Reader_Num.f n ((b, ((32 + nlN b : Nat) : Int), false, ()), 2, ())).bind _ = _ ∧ _
              rw [g2, Option.bind_some]
              by_cases h6 : gt b (32 + nlN b) 2 = 16
              · rw [if_neg (by simp [h6])]
                show ∃ a' s' p' z' ok, (little_Reader_Num.f n ((b, ((34 + nlN b : Nat) : Int), false, ()), 8, ())).bind _ = _ ∧ _
                rw [g3, Option.bind_some]
                show ∃ a' s' p' z' ok, (little_Reader_Num.f n ((b, ((42 + nlN b : Nat) : Int), false, ()), 8, ())).bind _ = _ ∧ _
                rw [g4, Option.bind_some, great_is, Option.bind_some]
                refine ⟨_, _, _, _, _, rfl, ?_⟩
                by_cases h7 : 4294967295 ≤ gt b (42 + nlN b) 8 ∨ 4294967295 ≤ gt b (34 + nlN b) 8
                · rw [if_pos ⟨h1, h2, h3, h4, h5, h6, h7⟩]
                  refine ⟨decide_eq_true h7, rfl, rfl, by omega⟩
                · rw [if_neg (fun h => h7 h.2.2.2.2.2.2)]
                  exact decide_eq_false h7
              · rw [if_pos (by simp [h6]), if_neg (by simp [h6])]
                exact ⟨_, _, _, _, _, rfl, rfl⟩
            · rw [if_pos (by simp [h5]), if_neg (by simp [h5])]
              exact ⟨_, _, _, _, _, rfl, rfl⟩
          · rw [if_pos (by simp [xsV, h4]), if_neg (by simp [h4])]
            exact ⟨_, _, _, _, _, rfl, rfl⟩
        · rw [if_pos (by simp [xsV, h3]), if_neg (by simp [h3])]
          exact ⟨_, _, _, _, _, rfl, rfl⟩
      · rw [if_pos (by simp [xsV, h2]), if_neg (by simp [h2])]
        exact ⟨_, _, _, _, _, rfl, rfl⟩
    · rw [if_pos (by simp [xsV, h1]), if_neg (by simp [h1])]
      exact ⟨_, _, _, _, _, rfl, rfl⟩
theorem parse_is : local_Parse.f n (b, ()) = some (prV n b) := by
  rw [local_Parse.eq, little_Read.eq, Option.bind_some]
  show (little_Reader_Num.f n ((b, ((0 : Nat) : Int), false, ()), 4, ())).bind _ = _
  unfold prV
  by_cases h4 : b.length < 4
  · rw [if_pos (.inl h4)]
    have h := bytes_short (n := n) hl (a := 0) (k := 4) (by omega) (by decide) (by omega)
    have hg := get_is (n := n) (by omega) By.nil (by simp)
    have hnum : little_Reader_Num.f n ((b, ((0 : Nat) : Int), false, ()), 4, ()) = some ((b, ((0 : Nat) : Int), true, ()), 0, ()) := by
      rw [little_Reader_Num.eq, held_le _ (by omega) (by omega), Option.bind_some]
      refine (congrArg (Option.bind · _) h).trans ?_
      rw [Option.bind_some]
      refine (congrArg (Option.bind · _) hg).trans ?_
      rfl
    rw [hnum, Option.bind_some, if_pos (show ((0 : Int) != 67324752) = true from rfl)]
    rfl
  · rw [num_four hn hb hl (a := 0) (by omega), Option.bind_some]
    by_cases hs : gt b 0 4 = 67324752
    · rw [if_neg (by simp [hs]), if_neg (by simp [hs]; omega)]
      show (local_numbers.f n ((b, (4 : Int), false, ()), ())).bind _ = _
      by_cases h30 : b.length < 30
      · obtain ⟨a', x, hx⟩ := numbers_short hn hb hl (by omega) h30
        rw [if_pos (.inl h30), hx, Option.bind_some, little_Reader_Short.eq, Option.bind_some, if_pos rfl]
        rfl
      · have r26 := gt2 hb 26
        have r28 := gt2 hb 28
        have r8 := gt2 hb 8
        have r10 := gt2 hb 10
        have r12 := gt2 hb 12
        have r14 := gt4 hb 14
        have hN : (nlN b : Int) = gt b 26 2 := by unfold nlN; omega
        have e1 : wr .i64 ((b.length : Int) - 30) = (b.length : Int) - 30 := wr64 (by omega) (by omega)
        have e2 : wr .u64 ((b.length : Int) - 30) = (b.length : Int) - 30 := wru64 (by omega) (by omega)
        have e3 : wr .u64 (gt b 26 2 + gt b 28 2) = gt b 26 2 + gt b 28 2 := wru64 (by omega) (by omega)
        have e4 : wr .i64 (gt b 26 2) = ((nlN b : Nat) : Int) := by rw [wr64 (by omega) (by omega)]; omega
        have e5 : wr .i64 (gt b 8 2) = gt b 8 2 := wr64 (by omega) (by omega)
        have e6 : wr .u32 (gt b 14 4) = gt b 14 4 := by rw [wru32]; omega
        have e7 : wr .u16 (gt b 12 2) = gt b 12 2 := by rw [wru16]; omega
        have e8 : wr .u16 (gt b 10 2) = gt b 10 2 := by rw [wru16]; omega
        rw [numbers_ok hn hb hl (by omega), Option.bind_some, little_Reader_Short.eq, Option.bind_some, if_neg (show ¬ (false = true) from Bool.false_ne_true), little_Reader_Left.eq, Option.bind_some]
        simp only [e1, e2, e3]
        by_cases hle : (b.length : Int) < 30 + gt b 26 2 + gt b 28 2
        · rw [if_pos (by simp; omega), if_pos (.inr hle)]
          rfl
        · rw [if_neg (by simp; omega), if_neg (by omega)]
          have hB := bytes_ok (n := n) hl (a := 30) (k := nlN b) (by omega)
          simp only [e4]
          refine (congrArg (Option.bind · _) hB).trans ?_
          rw [Option.bind_some]
          simp only [e5, e6]
          obtain ⟨a', s', p', z', ok, hm, hv⟩ := more_is hn hb hl (by omega) (by omega) (gt b 8 2) 0 0 0 0 0 0 (gt b 14 4) (gt b 18 4) (gt b 22 4) (strOf (nmB b)) rfl rfl
          refine (congrArg (Option.bind · _) hm).trans ?_
          rw [Option.bind_some]
          cases hv' : mrV b with
          | none =>
            rw [hv'] at hv
            rw [if_pos (by simp [show ok = false from hv])]
            rfl
          | some q =>
            obtain ⟨q, z⟩ := q
            rw [hv'] at hv
            obtain ⟨v1, v2, v3, v4⟩ := hv
            subst v1; subst v2; subst v3
            rw [if_neg (by simp)]
            dsimp only
            by_cases hf : gt b 6 2 = 2048
            · rw [if_neg (by simp [hf]), if_neg (by simp [hf])]
              simp only [e7, e8]
              rw [stUnpack_is n _ r12.1 r12.2 r10.1 r10.2, Option.bind_some]
              have hc : ∀ (t : Stm) (e : Int), (if StOk (unS (gt b 12 2) (gt b 10 2)) then (unS (gt b 12 2) (gt b 10 2), (0 : Int), ()) else ((0, 0, 0, 0, 0, 0, ()), 41, ())) = (t, e, ()) → t = (hdV b p' z').2.1 ∧ e = (if StOk (unS (gt b 12 2) (gt b 10 2)) then 0 else 41) := by
                intro t e h
                show t = (if StOk (unS (gt b 12 2) (gt b 10 2)) then unS (gt b 12 2) (gt b 10 2) else zS) ∧ _
                split at h
                · rename_i hk; rw [if_pos hk, if_pos hk]; cases h; exact ⟨rfl, rfl⟩
                · rename_i hk; rw [if_neg hk, if_neg hk]; cases h; exact ⟨rfl, rfl⟩
              obtain ⟨⟨t, e, u⟩, hte⟩ : ∃ q, q = (if StOk (unS (gt b 12 2) (gt b 10 2)) then (unS (gt b 12 2) (gt b 10 2), (0 : Int), ()) else ((0, 0, 0, 0, 0, 0, ()), 41, ())) := ⟨_, rfl⟩
              obtain ⟨rfl, rfl⟩ := hc t e hte.symm
              simp only [← hte]
              have hck := lcheck_is (n := n) (by omega) (hdV b p' z', ())
              refine (congrArg (Option.bind · _) hck).trans ?_
              rw [Option.bind_some]
              by_cases c1 : chkV n (hdV b p' z') = 43
              · rw [if_pos (by simp [c1]), if_pos c1, c1]; rfl
              · rw [if_neg (by simp [c1]), if_neg c1]
                by_cases c2 : StOk (unS (gt b 12 2) (gt b 10 2))
                · simp only [if_pos c2, if_neg (not_not_intro c2)]
                  rw [if_neg (show ¬ (((0 : Int) != 0) = true) by decide)]
                  by_cases c3 : chkV n (hdV b p' z') = 0
                  · rw [if_neg (by simp [c3]), if_neg (by simp [c3]), little_Reader_At.eq, Option.bind_some, ← v4]
                    rfl
                  · rw [if_pos (by simp [c3]), if_pos c3]; rfl
                · simp only [if_neg c2, if_pos c2]
                  rw [if_pos (show ((41 : Int) != 0) = true from rfl)]
                  rfl
            · rw [if_pos (by simp [hf]), if_pos (by simp [hf])]
              rfl
    · rw [if_pos (by simp [hs]), if_pos (.inr hs)]
      rfl
end
end Go.Proofs.YtdbaglogmdkbpaaDoor.Vm
