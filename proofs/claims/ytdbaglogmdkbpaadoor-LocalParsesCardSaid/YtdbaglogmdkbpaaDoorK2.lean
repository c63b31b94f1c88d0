/- Stamps and names: what the program's functions come to. Conditions: as each theorem states them. -/
import Derived.Test.YtdbaglogmdkbpaaDoorK1
namespace Go.Proofs.YtdbaglogmdkbpaaDoor.Vm
open Go Go.RowKit
set_option linter.unusedVariables false
set_option linter.unusedSimpArgs false
set_option maxRecDepth 10000
@[reducible] def Stm : Type := Int × Int × Int × Int × Int × Int × Unit
theorem within_is (n : Nat) (x : Int × Int × Int × Unit) : stamp_within.f n x = some (decide (x.2.1 ≤ x.1 ∧ x.1 ≤ x.2.2.1), ()) := by
  refine (stamp_within.eq n x.1 x.2.1 x.2.2.1).trans ?_
  by_cases h : x.2.1 ≤ x.1
  · rw [if_pos (by simpa using h)]; simp [h]
  · rw [if_neg (by simpa using h)]; simp [h]
/-- how many days a month has -/
def days (y m : Int) : Int := if m < 1 ∨ 12 < m then 0 else if m = 2 ∧ y.tmod 4 = 0 ∧ (y.tmod 100 ≠ 0 ∨ y.tmod 400 = 0) then 29 else tab0.getD m.toNat 0
theorem days_is (n : Nat) (x : Int × Int × Unit) : stamp_Days.f n x = some (days x.1 x.2.1, ()) := by
  refine (stamp_Days.eq n x.1 x.2.1).trans ?_
  unfold days
  by_cases h1 : x.2.1 < 1
  · simp [h1]
  · by_cases h2 : 12 < x.2.1
    · simp [h2]
    · have g1 : 0 ≤ x.2.1 := by omega
      have g2 : x.2.1 < 13 := by omega
      by_cases h3 : x.2.1 = 2
      · by_cases h4 : x.1.tmod 4 = 0
        · by_cases h5 : x.1.tmod 100 = 0
          · by_cases h6 : x.1.tmod 400 = 0
            · simp [h3, h4, h5, h6]
            · simp [h3, h4, h5, h6]
          · simp [h3, h4, h5]
        · simp [h3, h4]
      · simp [h1, h2, h3, g1, g2]
theorem tab_le : ∀ i : Nat, tab0.getD i 0 ≤ 31
  | 0 => by decide
  | 1 => by decide
  | 2 => by decide
  | 3 => by decide
  | 4 => by decide
  | 5 => by decide
  | 6 => by decide
  | 7 => by decide
  | 8 => by decide
  | 9 => by decide
  | 10 => by decide
  | 11 => by decide
  | 12 => by decide
  | n + 13 => by show (0 : Int) ≤ 31; decide
theorem days_le (y m : Int) : days y m ≤ 31 := by
  unfold days
  split
  · decide
  · split
    · decide
    · exact tab_le _
def StOk (t : Stm) : Prop := (1980 ≤ t.1 ∧ t.1 ≤ 2107) ∧ (1 ≤ t.2.1 ∧ t.2.1 ≤ 12) ∧ (1 ≤ t.2.2.1 ∧ t.2.2.1 ≤ days t.1 t.2.1) ∧ (0 ≤ t.2.2.2.1 ∧ t.2.2.2.1 ≤ 23) ∧ (0 ≤ t.2.2.2.2.1 ∧ t.2.2.2.2.1 ≤ 59) ∧ (0 ≤ t.2.2.2.2.2.1 ∧ t.2.2.2.2.2.1 ≤ 58) ∧ t.2.2.2.2.2.1.tmod 2 = 0
instance (t : Stm) : Decidable (StOk t) := by unfold StOk; infer_instance
def stE (t : Stm) : Int := if StOk t then 0 else 41
theorem stCheck_is (n : Nat) (x : Stm × Unit) : stamp_Check.f n x = some (stE x.1, ()) := by
  obtain ⟨t, u⟩ := x
  refine (stamp_Check.eq n t).trans ?_
  simp only [within_is, days_is, Option.bind_some]
  unfold stE StOk
  by_cases h1 : 1980 ≤ t.1 ∧ t.1 ≤ 2107 <;> by_cases h2 : 1 ≤ t.2.1 ∧ t.2.1 ≤ 12 <;> by_cases h3 : 1 ≤ t.2.2.1 ∧ t.2.2.1 ≤ days t.1 t.2.1 <;> by_cases h4 : 0 ≤ t.2.2.2.1 ∧ t.2.2.2.1 ≤ 23 <;> by_cases h5 : 0 ≤ t.2.2.2.2.1 ∧ t.2.2.2.2.1 ≤ 59 <;> by_cases h6 : 0 ≤ t.2.2.2.2.2.1 ∧ t.2.2.2.2.2.1 ≤ 58 <;> by_cases h7 : t.2.2.2.2.2.1.tmod 2 = 0 <;> simp [h1, h2, h3, h4, h5, h6, h7]
/-- a stamp's numbers -/
def dateN (t : Stm) : Int := (t.1 - 1980) * 512 + t.2.1 * 32 + t.2.2.1
def timeN (t : Stm) : Int := t.2.2.2.1 * 2048 + t.2.2.2.2.1 * 32 + t.2.2.2.2.2.1 / 2
/-- numbers' stamp -/
def unS (d m : Int) : Stm := (1980 + d / 512, d / 32 % 16, d % 32, m / 2048, m / 32 % 64, m % 32 * 2, ())
theorem tmod2 {x : Int} (h : 0 ≤ x) : x.tmod 2 = x % 2 := Int.tmod_eq_emod_of_nonneg h
theorem StOk.nums {t : Stm} (h : StOk t) : 0 ≤ dateN t ∧ dateN t < 65536 ∧ 0 ≤ timeN t ∧ timeN t < 65536 ∧ unS (dateN t) (timeN t) = t := by
  obtain ⟨y, m, d, hh, mi, s, u⟩ := t
  obtain ⟨h1, h2, h3, h4, h5, h6, h7⟩ := h
  have h8 := days_le y m
  simp only at h1 h2 h3 h4 h5 h6 h7 h8
  rw [tmod2 h6.1] at h7
  simp only [dateN, timeN, unS]
  refine ⟨by omega, by omega, by omega, by omega, ?_⟩
  rw [show 1980 + ((y - 1980) * 512 + m * 32 + d) / 512 = y by omega, show ((y - 1980) * 512 + m * 32 + d) / 32 % 16 = m by omega, show ((y - 1980) * 512 + m * 32 + d) % 32 = d by omega, show (hh * 2048 + mi * 32 + s / 2) / 2048 = hh by omega, show (hh * 2048 + mi * 32 + s / 2) / 32 % 64 = mi by omega, show (hh * 2048 + mi * 32 + s / 2) % 32 * 2 = s by omega]
theorem un_nums {d m : Int} (hd : 0 ≤ d) (hd' : d < 65536) (hm : 0 ≤ m) (hm' : m < 65536) : dateN (unS d m) = d ∧ timeN (unS d m) = m := by
  simp only [dateN, timeN, unS]
  constructor <;> omega
theorem stPack_is (n : Nat) (x : Stm × Unit) : stamp_Pack.f n x = some (if StOk x.1 then (dateN x.1, timeN x.1, 0, ()) else (0, 0, 41, ())) := by
  obtain ⟨t, u⟩ := x
  refine (stamp_Pack.eq n t).trans ?_
  simp only [stCheck_is, Option.bind_some]
  by_cases h : StOk t
  · have e : stE t = 0 := if_pos h
    obtain ⟨p1, p2, p3, p4, _⟩ := h.nums
    obtain ⟨h1, h2, h3, h4, h5, h6, h7⟩ := h
    have h8 := days_le t.1 t.2.1
    have e2 : t.2.2.2.2.2.1.tdiv 2 = t.2.2.2.2.2.1 / 2 := Int.tdiv_eq_ediv_of_nonneg h6.1
    unfold dateN at p1 p2
    unfold timeN at p3 p4
    rw [if_neg (by simp [e]), if_pos ⟨h1, h2, h3, h4, h5, h6, h7⟩, e2, wr64 (x := t.1 - 1980) (by omega) (by omega), wr64 (x := (t.1 - 1980) * 512) (by omega) (by omega), wr64 (x := t.2.1 * 32) (by omega) (by omega), wr64 (x := (t.1 - 1980) * 512 + t.2.1 * 32) (by omega) (by omega), wr64 (x := (t.1 - 1980) * 512 + t.2.1 * 32 + t.2.2.1) (by omega) (by omega),
      wr64 (x := t.2.2.2.1 * 2048) (by omega) (by omega), wr64 (x := t.2.2.2.2.1 * 32) (by omega) (by omega), wr64 (x := t.2.2.2.1 * 2048 + t.2.2.2.2.1 * 32) (by omega) (by omega), wr64 (x := t.2.2.2.2.2.1 / 2) (by omega) (by omega), wr64 (x := t.2.2.2.1 * 2048 + t.2.2.2.2.1 * 32 + t.2.2.2.2.2.1 / 2) (by omega) (by omega), wru16, wru16, Int.emod_eq_of_lt p1 p2, Int.emod_eq_of_lt p3 p4]
    rfl
  · have e : stE t = 41 := if_neg h
    rw [if_pos (by simp [e]), if_neg h, e]
theorem stUnpack_is (n : Nat) (x : Int × Int × Unit) (hd : 0 ≤ x.1) (hd' : x.1 < 65536) (hm : 0 ≤ x.2.1) (hm' : x.2.1 < 65536) : stamp_Unpack.f n x = some (if StOk (unS x.1 x.2.1) then (unS x.1 x.2.1, 0, ()) else ((0, 0, 0, 0, 0, 0, ()), 41, ())) := by
  obtain ⟨d, m, u⟩ := x
  simp only at hd hd' hm hm'
  refine (stamp_Unpack.eq n d m).trans ?_
  have e1 : d.tdiv 512 = d / 512 := Int.tdiv_eq_ediv_of_nonneg hd
  have e2 : d.tdiv 32 = d / 32 := Int.tdiv_eq_ediv_of_nonneg hd
  have e3 : d.tmod 32 = d % 32 := Int.tmod_eq_emod_of_nonneg hd
  have e4 : m.tdiv 2048 = m / 2048 := Int.tdiv_eq_ediv_of_nonneg hm
  have e5 : m.tdiv 32 = m / 32 := Int.tdiv_eq_ediv_of_nonneg hm
  have e6 : m.tmod 32 = m % 32 := Int.tmod_eq_emod_of_nonneg hm
  have e7 : (d / 32).tmod 16 = d / 32 % 16 := Int.tmod_eq_emod_of_nonneg (by omega)
  have e8 : (m / 32).tmod 64 = m / 32 % 64 := Int.tmod_eq_emod_of_nonneg (by omega)
  rw [wr64 (x := d) (by omega) (by omega), wr64 (x := m) (by omega) (by omega), e1, e2, e3, e4, e5, e6, wr64 (x := d / 512) (by omega) (by omega), wr64 (x := d / 32) (by omega) (by omega), wr64 (x := m / 2048) (by omega) (by omega), wr64 (x := m / 32) (by omega) (by omega), e7, e8, wr64 (x := 1980 + d / 512) (by omega) (by omega), wr64 (x := m % 32 * 2) (by omega) (by omega)]
  simp only [stCheck_is, Option.bind_some]
  show (if (stE (unS d m) != 0) = true then _ else some (unS d m, (0 : Int), ())) = _
  by_cases h : StOk (unS d m)
  · have e : stE (unS d m) = 0 := if_pos h
    rw [if_neg (by simp [e]), if_pos h]
  · have e : stE (unS d m) = 41 := if_neg h
    rw [if_pos (by simp [e]), if_neg h]
    show some ((0, 0, 0, 0, 0, 0, ()), stE (unS d m), ()) = _
    rw [e]
/-- what a name may hold -/
def mayV (c : Int) : Bool := decide (32 ≤ c) && (decide (c < 127) || decide (159 < c)) && (c != 92) && (c != 58) && (c != 65533)
def partV (s : ByteArray) : Bool := !(s.toList == ByteArray.empty.toList) && !(s.toList == (ByteArray.mk #[46]).toList) && !(s.toList == (ByteArray.mk #[46, 46]).toList)
theorem may_is (n : Nat) (x : Int × Unit) : name_may.f n x = some (mayV x.1, ()) := by
  refine (name_may.eq n x.1).trans ?_
  unfold mayV
  by_cases h1 : 32 ≤ x.1 <;> by_cases h2 : x.1 < 127 <;> by_cases h3 : 159 < x.1 <;> by_cases h4 : x.1 = 92 <;> by_cases h5 : x.1 = 58 <;> simp [h1, h2, h3, h4, h5]
theorem part_is (n : Nat) (x : ByteArray × Unit) : name_part.f n x = some (partV x.1, ()) := by
  refine (name_part.eq n x.1).trans ?_
  unfold partV
  cases h1 : (ByteArray.toList x.1 == ByteArray.toList ByteArray.empty) <;> cases h2 : (ByteArray.toList x.1 == ByteArray.toList (ByteArray.mk #[46])) <;> simp [h1, h2]
theorem scan_total (s : ByteArray) : ∀ (k pos : Nat), 0 < k → s.size < pos + k → ∃ b, Nm.scan (fun c => some (mayV c)) k s pos = some b
  | 0, pos, h, _ => absurd h (by decide)
  | k + 1, pos, h, h2 => by
    unfold Nm.scan
    by_cases hp : pos < s.size
    · rw [if_pos hp, Option.bind_some]
      cases mayV (Go.Utf8.decode s pos).1 with
      | true =>
        rw [if_pos rfl]
        exact scan_total s k _ (by omega) (by have := Nm.width_pos s pos hp; omega)
      | false => exact ⟨_, rfl⟩
    · exact ⟨_, if_neg hp⟩
theorem chk_total : ∀ (k : Nat) (s : ByteArray), s.size < k → ∃ b, Nm.chk (fun t => some (partV t)) k s = some b
  | 0, s, h => absurd h (by omega)
  | k + 1, s, h => by
    unfold Nm.chk
    rw [Option.bind_some]
    cases partV (Nm.hd s) with
    | false => exact ⟨_, rfl⟩
    | true =>
      rw [if_pos rfl]
      by_cases hi : Nm.idx s < 0
      · exact ⟨_, if_pos hi⟩
      · rw [if_neg hi]
        refine chk_total k (Nm.tl s) ?_
        have hr := Nm.idx_range s
        unfold Nm.tl
        rw [ByteArray.size_extract]
        omega
/-- what the program says of a name -/
def nmV (n : Nat) (s : ByteArray) : Int := (Nm.checkN (fun c => some (mayV c)) (fun t => some (partV t)) n s).getD 40
theorem check_total {n : Nat} (hn : 256 ≤ n) (s : ByteArray) : Nm.checkN (fun c => some (mayV c)) (fun t => some (partV t)) n s = some (nmV n s) ∧ (nmV n s = 0 ∨ nmV n s = 40) := by
  have : ∃ v, Nm.checkN (fun c => some (mayV c)) (fun t => some (partV t)) n s = some v ∧ (v = 0 ∨ v = 40) := by
    unfold Nm.checkN
    by_cases h : s.size = 0 ∨ 255 < s.size
    · exact ⟨40, if_pos h, .inr rfl⟩
    · rw [if_neg h]
      obtain ⟨b, hb⟩ := scan_total s n 0 (by omega) (by omega)
      rw [hb, Option.bind_some]
      cases b with
      | false => exact ⟨40, rfl, .inr rfl⟩
      | true =>
        rw [if_pos rfl]
        obtain ⟨c, hc⟩ := chk_total n s (by omega)
        rw [hc, Option.bind_some]
        cases c
        · exact ⟨_, rfl, .inr rfl⟩
        · exact ⟨_, rfl, .inl rfl⟩
  obtain ⟨v, h1, h2⟩ := this
  have : nmV n s = v := by unfold nmV; rw [h1]; rfl
  rw [this]
  exact ⟨h1, h2⟩
theorem name_is {n : Nat} (hn : 256 ≤ n) (x : ByteArray × Unit) : name_Check.f n x = some (nmV n x.1, ()) := by
  have e1 : name_Check.may n = fun c => some (mayV c) := by funext c; unfold name_Check.may; rw [may_is]; rfl
  have e2 : name_Check.part n = fun c => some (partV c) := by funext c; unfold name_Check.part; rw [part_is]; rfl
  show (Nm.checkN (name_Check.may n) (name_Check.part n) n x.1).bind (fun r => some (r, ())) = _
  rw [e1, e2, (check_total hn x.1).1]
  rfl
theorem nmV_long {n : Nat} {s : ByteArray} (h : s.size = 0 ∨ 255 < s.size) : nmV n s = 40 := by
  unfold nmV Nm.checkN
  rw [if_pos h]; rfl
end Go.Proofs.YtdbaglogmdkbpaaDoor.Vm
