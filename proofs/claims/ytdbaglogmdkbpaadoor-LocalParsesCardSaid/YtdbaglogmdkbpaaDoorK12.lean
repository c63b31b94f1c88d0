/- Layer 18: the document's bytes; LocalWrites. Conditions: as each theorem states them. -/
import Derived.Test.YtdbaglogmdkbpaaDoorK9
import Derived.Test.YtdbaglogmdkbpaaDoorK11
namespace Go.Proofs.YtdbaglogmdkbpaaDoor.Vm
open Go Go.RowKit
set_option linter.unusedVariables false
set_option linter.unusedSimpArgs false
set_option maxRecDepth 100000
theorem rdays_is (n : Nat) (x : Int × Int × Unit) : ref17_Days.f n x = some (days x.1 x.2.1, ()) := by
  obtain ⟨y, m, u⟩ := x
  refine (ref17_Days.eq n y m).trans ?_
  show _ = some (days y m, ())
  unfold days
  by_cases h1 : m < 1
  · simp [h1]
  by_cases h2 : 12 < m
  · simp [h2]
  rw [if_neg (by simp; omega), if_neg (by simp; omega), if_neg (show ¬ (m < 1 ∨ 12 < m) by omega)]
  by_cases h3 : m = 2
  · subst h3
    by_cases a : y.tmod 400 = 0
    · have a4 : y.tmod 4 = 0 := Int.tmod_eq_zero_of_dvd (Int.dvd_trans (by decide) (Int.dvd_of_tmod_eq_zero a))
      simp [a, a4]
    · by_cases b : y.tmod 4 = 0
      · by_cases c : y.tmod 100 = 0
        · simp [a, b, c]; rfl
        · simp [a, b, c]
      · simp [a, b]; rfl
  · rw [if_neg (by simpa using h3), if_neg (show ¬ (m = 2 ∧ y.tmod 4 = 0 ∧ (y.tmod 100 ≠ 0 ∨ y.tmod 400 = 0)) from fun h => h3 h.1)]
    rcases (by omega : m = 1 ∨ m = 3 ∨ m = 4 ∨ m = 5 ∨ m = 6 ∨ m = 7 ∨ m = 8 ∨ m = 9 ∨ m = 10 ∨ m = 11 ∨ m = 12) with h | h | h | h | h | h | h | h | h | h | h <;> subst h <;> rfl
theorem days_month {y m : Int} (h : 1 ≤ days y m) : 1 ≤ m ∧ m ≤ 12 := by
  unfold days at h
  by_cases c : m < 1 ∨ 12 < m
  · rw [if_pos c] at h; exact absurd h (by decide)
  · omega
theorem right_is (n : Nat) (x : Stm × Unit) : ref17_Right.f n x = some (decide (StOk x.1), ()) := by
  obtain ⟨t, u⟩ := x
  refine (ref17_Right.eq n t).trans ?_
  show _ = some (decide (StOk t), ())
  have hd : ref17_Days.f n (t.1, t.2.1, ()) = some (days t.1 t.2.1, ()) := rdays_is n (t.1, t.2.1, ())
  by_cases hk : StOk t
  · rw [decide_eq_true hk]
    obtain ⟨⟨a1, a2⟩, b, ⟨c1, c2⟩, ⟨d1, d2⟩, ⟨e1, e2⟩, ⟨f1, f2⟩, g⟩ := hk
    rw [if_neg (by simp; omega), if_neg (by simp; omega), if_neg (by simp; omega), hd, Option.bind_some, if_neg (by simp; omega), if_pos (by simp; omega), if_pos (by simp; omega), if_pos (by simp; omega), if_pos (by simp; omega), if_pos (by simp; omega), if_pos (by simp; omega), g]
    rfl
  · rw [decide_eq_false hk]
    by_cases a1 : t.1 < 1980
    · rw [if_pos (by simpa using a1)]
    rw [if_neg (by simpa using a1)]
    by_cases a2 : t.1 > 2107
    · rw [if_pos (by simpa using a2)]
    rw [if_neg (by simpa using a2)]
    by_cases a3 : t.2.2.1 < 1
    · rw [if_pos (by simpa using a3)]
    rw [if_neg (by simpa using a3), hd, Option.bind_some]
    by_cases a4 : t.2.2.1 > days t.1 t.2.1
    · rw [if_pos (by simpa using a4)]
    rw [if_neg (by simpa using a4)]
    by_cases a5 : ¬ (t.2.2.2.1 ≥ 0)
    · rw [if_neg (by simpa using a5)]
    have a5 := Decidable.of_not_not a5
    rw [if_pos (by simpa using a5)]
    by_cases a6 : ¬ (t.2.2.2.1 ≤ 23)
    · rw [if_neg (by simpa using a6)]
    have a6 := Decidable.of_not_not a6
    rw [if_pos (by simpa using a6)]
    by_cases a7 : ¬ (t.2.2.2.2.1 ≥ 0)
    · rw [if_neg (by simpa using a7)]
    have a7 := Decidable.of_not_not a7
    rw [if_pos (by simpa using a7)]
    by_cases a8 : ¬ (t.2.2.2.2.1 ≤ 59)
    · rw [if_neg (by simpa using a8)]
    have a8 := Decidable.of_not_not a8
    rw [if_pos (by simpa using a8)]
    by_cases a9 : ¬ (t.2.2.2.2.2.1 ≥ 0)
    · rw [if_neg (by simpa using a9)]
    have a9 := Decidable.of_not_not a9
    rw [if_pos (by simpa using a9)]
    by_cases a10 : ¬ (t.2.2.2.2.2.1 ≤ 58)
    · rw [if_neg (by simpa using a10)]
    have a10 := Decidable.of_not_not a10
    rw [if_pos (by simpa using a10)]
    have hm := days_month (y := t.1) (m := t.2.1) (by omega)
    have a11 : ¬ t.2.2.2.2.2.1.tmod 2 = 0 := fun g => hk ⟨⟨by omega, by omega⟩, hm, ⟨by omega, by omega⟩, ⟨a5, a6⟩, ⟨a7, a8⟩, ⟨a9, a10⟩, g⟩
    have : (t.2.2.2.2.2.1.tmod 2 == 0) = false := by simpa using a11
    rw [this]
theorem rgreat_is (n : Nat) (x : Hdr × Unit) : ref18_Great.f n x = some (decide (grt x.1), ()) := by
  obtain ⟨h, u⟩ := x
  refine (ref18_Great.eq n h).trans ?_
  unfold grt
  by_cases h1 : 4294967295 ≤ h.2.2.2.1
  · rw [if_pos (by simpa using h1)]; simp [h1]
  · rw [if_neg (by simpa using h1)]; simp [h1]
theorem rcheck_is {n : Nat} (hn : 1000 ≤ n) (x : Hdr × Unit) : ref18_Check.f n x = some (chkV n x.1, ()) := by
  obtain ⟨h, u⟩ := x
  refine (ref18_Check.eq n h).trans ?_
  simp only [right_is, rname_is hn, Option.bind_some]
  unfold chkV
  by_cases h1 : h.1 = 0 <;> by_cases h2 : h.1 = 8 <;> by_cases h3 : StOk h.2.1 <;> simp [h1, h2, h3]
/-- the document's bytes of any header -/
def rN (h : Hdr) (m T D : Int) : List (Nat × Int) := if grt h then hdL 45 m T D h.2.2.1 4294967295 4294967295 (h.2.2.2.2.2.1.size : Int) 20 else hdL 20 m T D h.2.2.1 h.2.2.2.1 h.2.2.2.2.1 (h.2.2.2.2.2.1.size : Int) 0
def rB (h : Hdr) (m T D : Int) : List Int := les (rN h m T D) ++ (sbytes h.2.2.2.2.2.1 ++ mrB h)
theorem wru64_range (x : Int) : 0 ≤ wr .u64 x ∧ wr .u64 x < 18446744073709551616 := by rw [wru64_mod]; omega
theorem rN_len (h : Hdr) (m T D : Int) : (les (rN h m T D)).length = 30 := by unfold rN; split <;> rfl
theorem rB_len (h : Hdr) (m T D : Int) : (rB h m T D).length = 30 + h.2.2.2.2.2.1.size + if grt h then 20 else 0 := by
  unfold rB
  rw [List.length_append, List.length_append, rN_len, mrB_len, sbytes_len]; omega
theorem rbytes_is {n : Nat} (hn : 1000 ≤ n) (hn' : n ≤ 1000000) (h : Hdr) (hk : HdOk h) (hs : h.2.2.2.2.2.1.size ≤ 100000) {d t : Int} (hp : ref17_Pack.f n (h.2.1, ()) = some (d, t, ())) : ref18_bytes.f n (h, ()) = some (rB h (wr .u64 h.1) (wr .u64 t) (wr .u64 d), ()) := by
  have r1 := wru64_range h.1
  have r2 := wru64_range t
  have r3 := wru64_range d
  have w4 : wr .u64 h.2.2.1 = h.2.2.1 := wru64 hk.sum.1 (by have := hk.sum.2; omega)
  have w5 : wr .u64 (h.2.2.2.2.2.1.size : Int) = (h.2.2.2.2.2.1.size : Int) := wru64 (by omega) (by omega)
  have hsum := hk.sum
  have hpk := hk.pk
  have hsz := hk.sz
  have hl := rB_len h (wr .u64 h.1) (wr .u64 t) (wr .u64 d)
  rw [ref18_bytes.eq, hp, Option.bind_some, rgreat_is, Option.bind_some]
  dsimp only
  rw [w4, w5]
  by_cases hg : grt h
  · have g1 := numbers_is (n := n) (by omega) (ps := [(2, 1), (2, 16), (8, h.2.2.2.2.1), (8, h.2.2.2.1)]) (by
      intro p hp
      simp only [List.mem_cons, List.mem_nil_iff, or_false] at hp
      rcases hp with rfl | rfl | rfl | rfl <;> simp <;> omega) (by show 4 ≤ 1000; decide) (by show 4 < n; omega)
    have g2 := numbers_is (n := n) (by omega) (ps := hdL 45 (wr .u64 h.1) (wr .u64 t) (wr .u64 d) h.2.2.1 4294967295 4294967295 (h.2.2.2.2.2.1.size : Int) 20) (by
      intro p hp
      simp only [hdL, List.mem_cons, List.mem_nil_iff, or_false] at hp
      rcases hp with rfl | rfl | rfl | rfl | rfl | rfl | rfl | rfl | rfl | rfl | rfl <;> simp <;> omega) (by show 11 ≤ 1000; decide) (by show 11 < n; omega)
    have e : [les (hdL 45 (wr .u64 h.1) (wr .u64 t) (wr .u64 d) h.2.2.1 4294967295 4294967295 (h.2.2.2.2.2.1.size : Int) 20), sbytes h.2.2.2.2.2.1, les [(2, 1), (2, 16), (8, h.2.2.2.2.1), (8, h.2.2.2.1)]].flatten = rB h (wr .u64 h.1) (wr .u64 t) (wr .u64 d) := by
      unfold rB rN mrB
      rw [if_pos hg, if_pos hg]
      simp only [List.flatten_cons, List.flatten_nil, List.append_nil]
    have g3 := join_is (n := n) (xs := [les (hdL 45 (wr .u64 h.1) (wr .u64 t) (wr .u64 d) h.2.2.1 4294967295 4294967295 (h.2.2.2.2.2.1.size : Int) 20), sbytes h.2.2.2.2.2.1, les [(2, 1), (2, 16), (8, h.2.2.2.2.1), (8, h.2.2.2.1)]]) (by rw [e, hl]; split <;> omega) (by show 3 < n; omega) (by omega)
    rw [e] at g3
    rw [if_pos (decide_eq_true hg), if_pos (by decide), if_pos (by simp), if_pos (by decide), if_pos (by simp), if_pos (by decide), if_pos (by simp), if_pos (by decide), if_pos (by simp)]
    refine (congrArg (Option.bind · _) g1).trans ?_
    rw [Option.bind_some, if_pos (lim_of (by omega))]
    refine (congrArg (Option.bind · _) g2).trans ?_
    rw [Option.bind_some]
    refine (congrArg (Option.bind · _) g3).trans ?_
    rfl
  · have g2 := numbers_is (n := n) (by omega) (ps := hdL 20 (wr .u64 h.1) (wr .u64 t) (wr .u64 d) h.2.2.1 h.2.2.2.1 h.2.2.2.2.1 (h.2.2.2.2.2.1.size : Int) 0) (by
      intro p hp
      simp only [hdL, List.mem_cons, List.mem_nil_iff, or_false] at hp
      rcases hp with rfl | rfl | rfl | rfl | rfl | rfl | rfl | rfl | rfl | rfl | rfl <;> simp <;> omega) (by show 11 ≤ 1000; decide) (by show 11 < n; omega)
    have e : [les (hdL 20 (wr .u64 h.1) (wr .u64 t) (wr .u64 d) h.2.2.1 h.2.2.2.1 h.2.2.2.2.1 (h.2.2.2.2.2.1.size : Int) 0), sbytes h.2.2.2.2.2.1, []].flatten = rB h (wr .u64 h.1) (wr .u64 t) (wr .u64 d) := by
      unfold rB rN mrB
      rw [if_neg hg, if_neg hg]
      simp only [List.flatten_cons, List.flatten_nil, List.append_nil]
    have g3 := join_is (n := n) (xs := [les (hdL 20 (wr .u64 h.1) (wr .u64 t) (wr .u64 d) h.2.2.1 h.2.2.2.1 h.2.2.2.2.1 (h.2.2.2.2.2.1.size : Int) 0), sbytes h.2.2.2.2.2.1, []]) (by rw [e, hl]; split <;> omega) (by show 3 < n; omega) (by omega)
    rw [e] at g3
    rw [if_neg (by simp [hg]), if_pos (lim_of (by omega))]
    refine (congrArg (Option.bind · _) g2).trans ?_
    rw [Option.bind_some]
    refine (congrArg (Option.bind · _) g3).trans ?_
    rfl
theorem rpack_ok (n : Nat) {t : Stm} (h : StOk t) : ref17_Pack.f n (t, ()) = some (dateN t, timeN t, ()) := by
  obtain ⟨p1, p2, p3, p4, _⟩ := h.nums
  obtain ⟨h1, h2, h3, h4, h5, h6, h7⟩ := h
  have h8 := days_le t.1 t.2.1
  have e2 : t.2.2.2.2.2.1.tdiv 2 = t.2.2.2.2.2.1 / 2 := Int.tdiv_eq_ediv_of_nonneg h6.1
  rw [ref17_Pack.eq, e2, wr64 (x := t.1 - 1980) (by omega) (by omega), wr64 (x := (t.1 - 1980) * 512) (by omega) (by omega), wr64 (x := t.2.1 * 32) (by omega) (by omega), wr64 (x := (t.1 - 1980) * 512 + t.2.1 * 32) (by omega) (by omega), wr64 (x := (t.1 - 1980) * 512 + t.2.1 * 32 + t.2.2.1) (by omega) (by omega),
    wr64 (x := t.2.2.2.1 * 2048) (by omega) (by omega), wr64 (x := t.2.2.2.2.1 * 32) (by omega) (by omega), wr64 (x := t.2.2.2.1 * 2048 + t.2.2.2.2.1 * 32) (by omega) (by omega), wr64 (x := t.2.2.2.2.2.1 / 2) (by omega) (by omega), wr64 (x := t.2.2.2.1 * 2048 + t.2.2.2.2.1 * 32 + t.2.2.2.2.2.1 / 2) (by omega) (by omega)]
  rfl
theorem rwrite_is {n : Nat} (hn : 1000 ≤ n) (hn' : n ≤ 1000000) (h : Hdr) (hk : HdOk h) : ref18_Write.f n (h, ()) = some (if chkV n h = 0 then (wB h, 0, ()) else ([], chkV n h, ())) := by
  rw [ref18_Write.eq, rcheck_is hn, Option.bind_some]
  by_cases hc : chkV n h = 0
  · obtain ⟨h1, h2, h3, h4, h5⟩ := chk_zero hc
    obtain ⟨p1, p2, p3, p4, _⟩ := h2.nums
    have hb := rbytes_is hn hn' h hk (by omega) (rpack_ok n h2)
    rw [wru64 (x := h.1) (by omega) (by omega), wru64 (x := timeN h.2.1) (by omega) (by omega), wru64 (x := dateN h.2.1) (by omega) (by omega)] at hb
    have e : rB h h.1 (timeN h.2.1) (dateN h.2.1) = wB h := by
      unfold rB wB rN hdN hdL
      rfl
    rw [e] at hb
    rw [if_neg (by simp [hc]), if_pos hc, hb, Option.bind_some]
  · rw [if_pos (by simp [hc]), if_neg hc]
theorem localWrites (h : Hdr) (hk : HdOk h) : law18_LocalWrites.f 1000 (h, ()) = some (true, ()) := by
  rw [law18_LocalWrites.eq, alive18, Option.bind_some, if_neg (show ¬ ((!true) = true) by decide)]
  by_cases h1 : h.2.2.2.2.2.1.size > 300
  · rw [if_pos (decide_eq_true (by omega))]
  have lh := wB_len h
  have hw : (wB h).length ≤ 350 := by rw [lh]; split <;> omega
  have e1 : wr .i64 ((30 : Int) + (h.2.2.2.2.2.1.size : Int)) = 30 + (h.2.2.2.2.2.1.size : Int) := wr64 (by omega) (by omega)
  have e2 : wr .i64 (30 + (h.2.2.2.2.2.1.size : Int) + 20) = 30 + (h.2.2.2.2.2.1.size : Int) + 20 := wr64 (by omega) (by omega)
  have hl : ((wB h).length : Int) = 30 + (h.2.2.2.2.2.1.size : Int) + (if grt h then 20 else 0) := by rw [lh]; split <;> omega
  rw [if_neg (by simp; omega), lwrite_is (by decide) (by decide) h hk, Option.bind_some, rwrite_is (by decide) (by decide) h hk, Option.bind_some, rgreat_is, Option.bind_some]
  have tail : ∀ L : Int, L = 30 + (h.2.2.2.2.2.1.size : Int) + (if grt h then 20 else 0) → ∀ y : List Int × Int × Unit, (y = (wB h, 0, ()) ∨ y = ([], chkV 1000 h, ()) ∧ chkV 1000 h ≠ 0) →
      (if (y.2.1 == y.2.1) = true then (ref01_Same.f 1000 (y.1, y.1, ())).bind (fun y12 => (if y12.1 = true then (local_Size.f 1000 (h, ())).bind (fun y13 => (if (y13.1 == L) = true then (if (y.2.1 != (0 : Int)) = true then (some (true, ())) else (some ((((List.length y.1 : Nat) : Int) == L), ()))) else (some (false, ())))) else (some (false, ())))) else (some (false, ()))) = some (true, ()) := by
    intro L hL y hy
    rw [if_pos (by simp), same_is (by rcases hy with rfl | ⟨rfl, _⟩; · show (wB h).length < 1000; omega
                                      · show 0 < 1000; decide) (by decide), Option.bind_some, if_pos (decide_eq_true rfl), lsize_is 1000 h (by omega), Option.bind_some, hL, if_pos (by simp)]
    rcases hy with rfl | ⟨rfl, hc⟩
    · rw [if_neg (show ¬ (((0 : Int) != 0) = true) by decide)]
      show some ((((wB h).length : Int) == _), ()) = _
      rw [hl]; simp
    · rw [if_pos (by simp [hc])]
  obtain ⟨y, hy⟩ : ∃ y : List Int × Int × Unit, y = (if chkV 1000 h = 0 then (wB h, 0, ()) else ([], chkV 1000 h, ())) := ⟨_, rfl⟩
  have hy2 : y = (wB h, 0, ()) ∨ y = ([], chkV 1000 h, ()) ∧ chkV 1000 h ≠ 0 := by
    by_cases hc : chkV 1000 h = 0
    · rw [hy, if_pos hc]; exact .inl rfl
    · rw [hy, if_neg hc]; exact .inr ⟨rfl, hc⟩
  rw [← hy, e1, e2]
  by_cases hg : grt h
  · rw [if_pos (decide_eq_true hg)]
    exact tail _ (by rw [if_pos hg]) y hy2
  · rw [if_neg (by simp [hg])]
    exact tail _ (by rw [if_neg hg, Int.add_zero]) y hy2
theorem pure_LocalWrites (z0 : HK.den) (f0 : KWf HK z0) : law18_LocalWrites.f 1000 (z0, ()) = some (true, ()) := localWrites z0 (hd_of f0)
end Go.Proofs.YtdbaglogmdkbpaaDoor.Vm
