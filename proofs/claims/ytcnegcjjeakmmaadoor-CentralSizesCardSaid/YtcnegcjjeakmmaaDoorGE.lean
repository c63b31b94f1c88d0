/- Joined texts of own work. Conditions: as each theorem states them. -/
import Derived.Test.YtcnegcjjeakmmaaDoorGD
import Derived.Test.YtcnegcjjeakmmaaDoorGC
import Derived.Test.YtcnegcjjeakmmaaDoorGB
namespace Go.Proofs.YtcnegcjjeakmmaaDoor.Vm
open Go Go.RowKit
set_option linter.unusedVariables false
set_option linter.unusedSimpArgs false
set_option linter.unusedSectionVars false
set_option maxRecDepth 10000
theorem seq_l0 (n m : Nat) {a b : List Int} (hab : a.length = b.length) (hl : a.length < 4611686018427387904) : ∀ (d i k : Nat), i + d = a.length → d < k → slices_Equal_byte_byte.l0 n m k (a, b, (a.length : Int), (i : Int), ()) = some (if a.drop i = b.drop i then Sum.inr () else Sum.inl (false, ()))
  | 0, i, 0, _, h => absurd h (by decide)
  | d + 1, i, 0, _, h => absurd h (by omega)
  | 0, i, k + 1, hi, hk => by
    rw [slices_Equal_byte_byte.l0_eq, if_neg (by simp; omega), List.drop_eq_nil_of_le (by omega), List.drop_eq_nil_of_le (by omega), if_pos rfl]
  | d + 1, i, k + 1, hi, hk => by
    have ha : i < a.length := by omega
    have hb : i < b.length := by omega
    have e : ((i : Int)).toNat = i := by omega
    rw [slices_Equal_byte_byte.l0_eq, if_pos (by simp; omega), if_pos (by omega), if_pos (by omega), if_pos (by omega), if_pos (by omega), e, getD_eq ha, getD_eq hb, List.drop_eq_getElem_cons ha, List.drop_eq_getElem_cons hb]
    by_cases hx : a[i] = b[i]
    · rw [if_neg (by simp [hx]), wr64 (by omega) (by omega), show (i : Int) + 1 = ((i + 1 : Nat) : Int) by omega, seq_l0 n m hab hl d (i + 1) k (by omega) (by omega)]
      simp only [List.cons.injEq, hx, true_and]
    · rw [if_pos (by simp [hx]), if_neg (fun h => hx (List.cons.inj h).1)]
theorem seq_is {n : Nat} {a b : List Int} (hl : a.length < n) (hn : n < 4611686018427387904) : slices_Equal_byte_byte.f n (a, b, ()) = some (decide (a = b), ()) := by
  rw [slices_Equal_byte_byte.eq]
  by_cases hab : a.length = b.length
  · rw [if_neg (by simp [hab])]
    have := seq_l0 n n hab (by omega) a.length 0 n (by omega) (by omega)
    rw [show ((0 : Nat) : Int) = 0 from rfl] at this
    rw [this, Option.bind_some]
    by_cases h : a = b
    · simp [h]
    · simp [h]
  · rw [if_pos (by simp; omega)]
    have : a ≠ b := fun h => hab (by rw [h])
    simp [this]
theorem pat_is {n : Nat} (hn : 1000 ≤ n) {b : List Int} (hb : By b) (h46 : 46 ≤ b.length) {i k : Nat} (h4 : 4 ≤ i) (hk : k ≤ 8) (h : i + k ≤ 46) : central_Parse_1.f n ((i : Int), (k : Int), ((b.drop 4).take 42, ()), ()) = some (((b.drop 4).take 42, ()), gt b i k, ()) := by
  have hl : ((b.drop 4).take 42).length = 42 := by rw [List.length_take, List.length_drop]; omega
  have e1 : wr .i64 ((i : Int) - 4) = ((i - 4 : Nat) : Int) := by rw [wr64 (by omega) (by omega)]; omega
  have e2 : wr .i64 (((i - 4 : Nat) : Int) + (k : Int)) = ((i - 4 + k : Nat) : Int) := by rw [wr64 (by omega) (by omega)]; omega
  have e3 : List.drop (i - 4) (List.take (i - 4 + k) ((b.drop 4).take 42)) = (b.drop i).take k := by
    rw [List.take_take, Nat.min_eq_left (by omega), List.drop_take, Nat.add_sub_cancel_left, List.drop_drop, show 4 + (i - 4) = i by omega]
  rw [central_Parse_1.eq, e1, e2, if_pos (by omega), if_pos (by omega), if_pos (by rw [hl]; omega), Int.toNat_natCast, Int.toNat_natCast, e3, get_is (by omega) ((hb.drop i).take k) (by rw [List.length_take]; omega), Option.bind_some]
  rfl
/-- a record like this that can be written -/
def mdT (c : Rec) (w : Int) : Stm := if w ≠ 0 then (1980, 1, 1, 0, 0, 0, ()) else c.1.2.1
def mdl (c : Rec) (w : Int) : Rec := ((0, mdT c w, c.1.2.2.1, c.1.2.2.2.1, c.1.2.2.2.2.1, ByteArray.mk #[120], ()), c.2.1, c.2.2.1, ())
theorem mdl_ok {c : Rec} (hk : RcOk c) (w : Int) : RcOk (mdl c w) := ⟨⟨hk.hd.sum, hk.hd.pk, hk.hd.sz⟩, hk.dk, hk.os⟩
theorem st80 : StOk (1980, 1, 1, 0, 0, 0, ()) := by decide +kernel
theorem nm_x : nmV 1000 (ByteArray.mk #[120]) = 0 := by kernel_rfl
theorem mdl_chk {n : Nat} (hx : nmV n (ByteArray.mk #[120]) = 0) {c : Rec} {w : Int} (hw : w ≠ 0 ∨ StOk c.1.2.1) : chkV n (mdl c w).1 = 0 := by
  have h2 : StOk (mdl c w).1.2.1 := by
    show StOk (mdT c w)
    unfold mdT
    split
    · exact st80
    · rcases hw with h | h
      · contradiction
      · exact h
  unfold chkV
  rw [if_neg (by simp [mdl]), if_pos h2]
  exact hx
def sl (x : List Int) (p q : Nat) : List Int := (x.take q).drop p
theorem jd_step {n m k : Nat} {b x : List Int} {w : Int} (C M : Bx) {i p q : Nat} (hi : i < 3) (hpq : ([[0, 10], [16, 28], [32, 46]] : List (List Int)).getD i (List.replicate 2 0) = [(p : Int), (q : Int)]) (hp : p ≤ q) (hq : q ≤ 46) (hb : 46 ≤ b.length) (hx : 46 ≤ x.length) (hn : 1000 ≤ n) (hn' : n ≤ 1000000) (ok : Bool) :
    central_judge.l0 n m (k + 1) (b, ok, w, C, M, x, [[0, 10], [16, 28], [32, 46]], 3, (i : Int), ()) = central_judge.l0 n m k (b, ok && decide (sl x p q = sl b p q), w, C, M, x, [[0, 10], [16, 28], [32, 46]], 3, ((i + 1 : Nat) : Int), ()) := by
  obtain ⟨b0, b1, b2, b3, b4, b5, b6, b7, b8, b9, b10, b11, b12, u⟩ := C
  obtain ⟨c0, c1, c2, c3, c4, c5, c6, c7, c8, c9, c10, c11, c12, u'⟩ := M
  have e1 : wr .i64 ((i : Int) + 1) = ((i + 1 : Nat) : Int) := by rw [wr64 (by omega) (by omega)]; omega
  rw [central_judge.l0_eq, if_pos (by simp; omega), if_pos (by omega), if_pos (show (i : Int) < ((List.length ([[0, 10], [16, 28], [32, 46]] : List (List Int)) : Nat) : Int) by simp; omega), Int.toNat_natCast, hpq]
  cases ok with
  | false =>
    rw [if_neg (by decide), Option.bind_some, Bool.false_and, ← e1]
  | true =>
    have g0 : List.getD [(p : Int), (q : Int)] (Int.toNat 0) 0 = (p : Int) := rfl
    have g1 : List.getD [(p : Int), (q : Int)] (Int.toNat 1) 0 = (q : Int) := rfl
    have hlx : (sl x p q).length < n := by unfold sl; rw [List.length_drop, List.length_take]; omega
    have h := seq_is (n := n) (a := sl x p q) (b := sl b p q) hlx (by omega)
    rw [g0, g1, if_pos rfl, if_pos (by decide), if_pos (by decide), if_pos (by decide), if_pos (by decide), if_pos (by omega), if_pos (by omega), if_pos (by omega), if_pos (by decide), if_pos (by decide), if_pos (by decide), if_pos (by decide), if_pos (by omega), if_pos (by omega), if_pos (by omega), Int.toNat_natCast, Int.toNat_natCast]
    show ((slices_Equal_byte_byte.f n (sl x p q, sl b p q, ())).bind _).bind _ = _
    rw [h, Option.bind_some, Option.bind_some, Bool.true_and, ← e1]
def sls (x b : List Int) : Bool := decide (sl x 0 10 = sl b 0 10) && decide (sl x 16 28 = sl b 16 28) && decide (sl x 32 46 = sl b 32 46)
theorem jd_loop {n m k : Nat} (hn : 1000 ≤ n) (hn' : n ≤ 1000000) {b x : List Int} {w : Int} (C M : Bx) (hb : 46 ≤ b.length) (hx : 46 ≤ x.length) (ok : Bool) :
    central_judge.l0 n m (k + 4) (b, ok, w, C, M, x, [[0, 10], [16, 28], [32, 46]], 3, 0, ()) = some (b, ok && sls x b, w, C, M, ()) := by
  refine (jd_step (n := n) (k := k + 3) C M (i := 0) (p := 0) (q := 10) (by decide) rfl (by decide) (by decide) hb hx hn hn' ok).trans ?_
  refine (jd_step (n := n) (k := k + 2) C M (i := 1) (p := 16) (q := 28) (by decide) rfl (by decide) (by decide) hb hx hn hn' _).trans ?_
  refine (jd_step (n := n) (k := k + 1) C M (i := 2) (p := 32) (q := 46) (by decide) rfl (by decide) (by decide) hb hx hn hn' _).trans ?_
  obtain ⟨b0, b1, b2, b3, b4, b5, b6, b7, b8, b9, b10, b11, b12, u⟩ := C
  obtain ⟨c0, c1, c2, c3, c4, c5, c6, c7, c8, c9, c10, c11, c12, u'⟩ := M
  refine (central_judge.l0_eq ..).trans ?_
  rw [if_neg (by decide)]
  unfold sls
  rw [Bool.and_assoc, Bool.and_assoc, Bool.and_assoc]
def zR : Rec := (zH, 0, 0, ())
theorem judge_is {n : Nat} (hn : 1000 ≤ n) (hn' : n ≤ 1000000) (hnx : nmV n (ByteArray.mk #[120]) = 0) (c : Rec) (hk : RcOk c) (b : List Int) (h46 : 46 + c.1.2.2.2.2.2.1.size ≤ b.length) (hl : b.length ≤ 1000000) (ok : Bool) (w : Int) (hw : w ≠ 0 ∨ StOk c.1.2.1) :
    central_judge.f n (c, b, ok, w, ()) = some (if (ok && sls (wC (mdl c w)) b) = true ∧ exB c = b.drop (46 + c.1.2.2.2.2.2.1.size) then (if chkV n c.1 = 43 then (zR, 0, 43, ()) else if w ≠ 0 then (zR, 0, w, ()) else if chkV n c.1 ≠ 0 then (zR, 0, chkV n c.1, ()) else (c, (b.length : Int), 0, ())) else (zR, 0, 21, ())) := by
  obtain ⟨k, rfl⟩ : ∃ k, n = k + 4 := ⟨n - 4, by omega⟩
  rw [central_judge.eq]
  have hx : 46 ≤ (wC (mdl c w)).length := by unfold wC; rw [cB_len]; omega
  have e1 : wr .i64 (46 + ((ByteArray.size c.1.2.2.2.2.2.1 : Nat) : Int)) = ((46 + c.1.2.2.2.2.2.1.size : Nat) : Int) := by rw [wr64 (by omega) (by omega)]; omega
  refine (bindE (a := (b, ok, w, bxOf c, bxOf zR, bxOf (mdl c w), ())) ?_).trans ?_
  · by_cases h : w = 0
    · subst h
      rw [if_neg (by decide)]; rfl
    · rw [if_pos (by simp [h])]
      unfold mdl mdT
      rw [if_pos h]; rfl
  have hwr := cwrite_is (n := k + 4) hn hn' (mdl c w) (mdl_ok hk w)
  rw [if_pos (mdl_chk hnx hw)] at hwr
  refine (bindE hwr).trans ?_
  refine (bindE (jd_loop hn hn' (b := b) (bxOf c) (bxOf zR) (by omega) hx ok)).trans ?_
  have hex := extra_is (n := k + 4) hn hn' c hk
  have h32 : (exB c).length < k + 4 := by rw [exB_len]; have := exN_le c; split <;> omega
  have heq := seq_is (n := k + 4) (a := exB c) (b := b.drop (46 + c.1.2.2.2.2.2.1.size)) h32 (by omega)
  refine (bindE (a := (b, w, bxOf c, bxOf zR, !(ok && sls (wC (mdl c w)) b && decide (exB c = b.drop (46 + c.1.2.2.2.2.2.1.size))), ())) ?_).trans ?_
  · cases hs : (ok && sls (wC (mdl c w)) b)
    · rw [if_pos (by rfl)]; rfl
    · rw [if_neg (by simp)]
      have e1' : wr .i64 (46 + ((ByteArray.size (b, true, w, bxOf c, bxOf zR, ()).2.2.2.1.2.2.2.2.2.2.2.2.2.2.1 : Nat) : Int)) = ((46 + c.1.2.2.2.2.2.1.size : Nat) : Int) := e1
      rw [e1', if_pos (by omega), if_pos (by show ((46 + c.1.2.2.2.2.2.1.size : Nat) : Int) ≤ (b.length : Int); omega)]
      refine (bindE hex).trans ?_
      dsimp only
      rw [Int.toNat_natCast, List.take_length]
      refine (bindE heq).trans ?_
      rfl
  · cases hs : (ok && sls (wC (mdl c w)) b)
    · rw [if_pos (by simp), if_neg (by simp)]; rfl
    · by_cases he : exB c = b.drop (46 + c.1.2.2.2.2.2.1.size)
      · rw [if_neg (by simp [he]), if_pos ⟨rfl, he⟩]
        have hck := ccheck_is (n := k + 4) (by omega) (c, ())
        refine (bindE hck).trans ?_
        dsimp only at hck ⊢
        by_cases c1 : chkV (k + 4) c.1 = 43
        · rw [if_pos (by simp [c1]), if_pos c1, c1]; rfl
        · rw [if_neg (by simp [c1]), if_neg c1]
          by_cases c2 : w = 0
          · rw [if_neg (show ¬ ((w != 0) = true) by simp [c2]), if_neg (show ¬ (w ≠ 0) by simp [c2])]
            by_cases c3 : chkV (k + 4) c.1 = 0
            · rw [if_neg (by rw [c3]; decide), if_neg (by simp [c3])]
            · rw [if_pos (by rw [bne_iff_ne]; exact c3), if_pos c3]; rfl
          · rw [if_pos (by simp [c2]), if_pos c2]; rfl
      · rw [if_pos (by simp [he]), if_neg (by simp [he])]; rfl
end Go.Proofs.YtcnegcjjeakmmaaDoor.Vm

namespace Go.Proofs.YtcnegcjjeakmmaaDoor.Vm
open Go Go.RowKit
set_option linter.unusedVariables false
set_option linter.unusedSimpArgs false
set_option linter.unusedSectionVars false
set_option maxRecDepth 10000
theorem rdS_at {e : List Int} {a k : Nat} (h : a + k ≤ e.length) : rdS e (a, false) k = ((a + k, false), gt e a k) := by
  unfold rdS
  rw [if_neg (show ¬ ((false : Bool) = true) by decide), if_pos h]
theorem told_keeps (e : List Int) (c : Rec) : (toldV e c).1.1.2.2.2.2.2.1 = c.1.2.2.2.2.2.1 ∧ (toldV e c).1.1.2.2.1 = c.1.2.2.1 ∧ (toldV e c).1.1.2.1 = c.1.2.1 := by
  unfold toldV
  split
  · exact ⟨rfl, rfl, rfl⟩
  · split
    · exact ⟨rfl, rfl, rfl⟩
    · split
      · exact ⟨rfl, rfl, rfl⟩
      · exact ⟨rfl, rfl, rfl⟩
theorem cr_range {e : List Int} (he : By e) (st : Nat × Bool) (k : Nat) (M x : Int) {Z : Int} (hZ : (256 : Int) ^ k ≤ Z) (hx : 0 ≤ x ∧ x < Z) : 0 ≤ (cr e st k M x).2 ∧ (cr e st k M x).2 < Z := by
  unfold cr
  split
  · have := rdS_range he st k; omega
  · exact hx
theorem told_ok {e : List Int} (he : By e) {c : Rec} (hk : RcOk c) : RcOk (toldV e c).1 := by
  unfold toldV
  split
  · exact hk
  · split
    · exact hk
    · split
      · exact hk
      · exact ⟨⟨hk.hd.sum, cr_range he _ 8 _ _ (by decide) hk.hd.pk, cr_range he _ 8 _ _ (by decide) hk.hd.sz⟩, cr_range he _ 4 _ _ (by decide) hk.dk, cr_range he _ 8 _ _ (by decide) hk.os⟩
def rc0 (b : List Int) : Rec := rcV b (gt b 20 4) (gt b 24 4) (gt b 42 4) (gt b 34 2)
theorem rc0_ok {b : List Int} (hb : By b) : RcOk (rc0 b) := by
  have h1 := gt4 hb 20
  have h2 := gt4 hb 24
  have h3 := gt2 hb 34
  have h4 := gt4 hb 42
  refine ⟨⟨gt4 hb 16, ?_, ?_⟩, ?_, ?_⟩
  · show 0 ≤ gt b 20 4 ∧ gt b 20 4 < _; omega
  · show 0 ≤ gt b 24 4 ∧ gt b 24 4 < _; omega
  · show 0 ≤ gt b 34 2 ∧ gt b 34 2 < _; omega
  · show 0 ≤ gt b 42 4 ∧ gt b 42 4 < _; omega
theorem a4_le (b : List Int) : a4 b ≤ 28 := by
  unfold a4 a3 a2 a1
  split <;> split <;> split <;> split <;> omega
section
variable {b : List Int} (hb : By b)
include hb
theorem told_fits (h0 : a4 b ≠ 0) (hl : (cEx b).length = 4 + a4 b) (h1 : gt (cEx b) 0 2 = 1) (h2 : gt (cEx b) 2 2 = (a4 b : Int)) : toldV (cEx b) (rc0 b) = (rE b, true) := by
  have r1 := gt4 hb 24
  have r2 := gt4 hb 20
  have r3 := gt4 hb 42
  have r4 := gt2 hb 34
  have s1 : rdS (cEx b) (0, false) 2 = ((2, false), gt (cEx b) 0 2) := rdS_at (by omega)
  have s2 : rdS (cEx b) (2, false) 2 = ((4, false), gt (cEx b) 2 2) := rdS_at (by omega)
  have b4 : a4 b = a3 b + if gt b 34 2 = 65535 then 4 else 0 := rfl
  have b3 : a3 b = a2 b + if gt b 42 4 = 4294967295 then 8 else 0 := rfl
  have b2 : a2 b = a1 b + if gt b 20 4 = 4294967295 then 8 else 0 := rfl
  have b1 : a1 b = if gt b 24 4 = 4294967295 then 8 else 0 := rfl
  have ba := a4_le b
  have w1 : wr .u64 (((cEx b).length : Int) - 4) = (a4 b : Int) := by rw [hl, wru64 (by omega) (by omega)]; omega
  have t1 : q1 (cEx b) (4, false) (rc0 b) = ((4 + a1 b, false), sV b) := by
    unfold q1 cr sV
    show (if 4294967295 ≤ gt b 24 4 then _ else ((4, false), gt b 24 4)) = _
    by_cases h : gt b 24 4 = 4294967295
    · rw [if_pos (by omega), if_pos h, rdS_at (by rw [hl, b4, b3, b2, b1, if_pos h]; omega), b1, if_pos h]
    · rw [if_neg (by omega), if_neg h, b1, if_neg h]
  have t2 : q2 (cEx b) (4, false) (rc0 b) = ((4 + a2 b, false), pV b) := by
    unfold q2
    rw [t1]
    unfold cr pV
    show (if 4294967295 ≤ gt b 20 4 then _ else ((4 + a1 b, false), gt b 20 4)) = _
    by_cases h : gt b 20 4 = 4294967295
    · rw [if_pos (by omega), if_pos h, rdS_at (by rw [hl, b4, b3, b2, if_pos h]; omega), b2, if_pos h]; rfl
    · rw [if_neg (by omega), if_neg h, b2, if_neg h]; rfl
  have t3 : q3 (cEx b) (4, false) (rc0 b) = ((4 + a3 b, false), oV b) := by
    unfold q3
    rw [t2]
    unfold cr oV
    show (if 4294967295 ≤ gt b 42 4 then _ else ((4 + a2 b, false), gt b 42 4)) = _
    by_cases h : gt b 42 4 = 4294967295
    · rw [if_pos (by omega), if_pos h, rdS_at (by rw [hl, b4, b3, if_pos h]; omega), b3, if_pos h]; rfl
    · rw [if_neg (by omega), if_neg h, b3, if_neg h]; rfl
  have t4 : q4 (cEx b) (4, false) (rc0 b) = ((4 + a4 b, false), dV b) := by
    unfold q4
    rw [t3]
    unfold cr dV
    show (if 65535 ≤ gt b 34 2 then _ else ((4 + a3 b, false), gt b 34 2)) = _
    by_cases h : gt b 34 2 = 65535
    · rw [if_pos (by omega), if_pos h, rdS_at (by rw [hl, b4, if_pos h]; omega), b4, if_pos h]; rfl
    · rw [if_neg (by omega), if_neg h, b4, if_neg h]; rfl
  unfold toldV
  rw [if_neg (by omega), s1]
  dsimp only
  rw [if_neg (by rw [h1]; decide), s2]
  dsimp only
  rw [if_neg (by rw [w1, h2]; simp), t1, t2, t3, t4, hl]
  dsimp only
  rw [show (((4 + a4 b : Nat) : Int) - ((4 + a4 b : Nat) : Int) == 0) = true by simp]
  rfl
theorem rE_none (h : a4 b = 0) : rc0 b = rE b := by
  unfold a4 a3 a2 a1 at h
  have h1 : gt b 24 4 ≠ 4294967295 := fun h' => by rw [if_pos h'] at h; omega
  have h2 : gt b 20 4 ≠ 4294967295 := fun h' => by rw [if_pos h'] at h; omega
  have h3 : gt b 42 4 ≠ 4294967295 := fun h' => by rw [if_pos h'] at h; omega
  have h4 : gt b 34 2 ≠ 65535 := fun h' => by rw [if_pos h'] at h; omega
  unfold rE rc0 pV sV oV dV
  rw [if_neg h1, if_neg h2, if_neg h3, if_neg h4]
/-- if the header and what doesn't fit are as they must be, then all was told -/
theorem told_of {c : Rec} (h : Hd b c) (he : exB c = cEx b) : toldV (cEx b) (rc0 b) = (rE b, true) := by
  have hn := h.n
  have hl := exB_len c
  rw [hn, he] at hl
  by_cases h0 : a4 b = 0
  · rw [if_pos h0] at hl
    unfold toldV
    rw [if_pos hl, rE_none hb h0]
  · rw [if_neg h0] at hl
    have ba := a4_le b
    have e : cEx b = les ((2, 1) :: (2, (a4 b : Int)) :: exL c) ++ [] := by
      rw [← he, List.append_nil]
      unfold exB
      rw [hn, if_neg h0]
    refine told_fits hb h0 hl ?_ ?_
    · rw [e]; exact gt_field (pre := []) rfl rfl (by decide) (by decide)
    · rw [e]; exact gt_field (pre := [(2, 1)]) rfl rfl (by omega) (by show (a4 b : Int) < 65536; omega)
end
theorem sl_mid {P Q R : List Int} {p q : Nat} (hp : P.length = p) (hq : P.length + Q.length = q) : sl (P ++ (Q ++ R)) p q = Q := by
  unfold sl
  rw [← List.append_assoc, List.take_append_of_le_length (by rw [List.length_append]; omega), List.take_of_length_le (by rw [List.length_append]; omega), ← hp, List.drop_left]
theorem sl_take (b : List Int) {p q c : Nat} (h : q ≤ c) : sl (b.take c) p q = sl b p q := by
  unfold sl
  rw [List.take_take, Nat.min_eq_left h]
theorem sl_cut (b : List Int) {p q : Nat} (h : p ≤ q) : sl b p q = (b.drop p).take (q - p) := by
  unfold sl
  rw [List.drop_take]
theorem sls_iff {b : List Int} (hb : By b) (h46 : 46 ≤ b.length) {c : Rec} (hk : RcOk c) (hsu : c.1.2.2.1 = gt b 16 4) (w : Int) (h30 : gt b 30 2 = ((exB c).length : Int)) : sls (wC (mdl c w)) b = true ↔ Hd b c := by
  have q1 := mn_range (M := 4294967295) (by decide) hk.hd.pk.1
  have q2 := mn_range (M := 4294967295) (by decide) hk.hd.sz.1
  have q3 := mn_range (M := 65535) (by decide) hk.dk.1
  have q4 := mn_range (M := 4294967295) (by decide) hk.os.1
  have g2 := fun i => gt2 hb i
  have g4 := fun i => gt4 hb i
  have hv : (0 : Int) ≤ (if exN c = 0 then 20 else 45) ∧ (if exN c = 0 then (20 : Int) else 45) < 256 ^ 2 := by split <;> decide
  have p2 : (256 : Int) ^ 2 = 65536 := rfl
  have p4 : (256 : Int) ^ 4 = 4294967296 := rfl
  have e1 : sl b 0 10 = les (flds b 0 [4, 2, 2, 2]) := by rw [sl_cut b (by decide), flds_is hb [4, 2, 2, 2] 0 (by simp; omega)]; rfl
  have e2 : sl b 16 28 = les (flds b 16 [4, 4, 4]) := by rw [sl_cut b (by decide), flds_is hb [4, 4, 4] 16 (by simp; omega)]; rfl
  have e3 : sl b 32 46 = les (flds b 32 [2, 2, 2, 4, 4]) := by rw [sl_cut b (by decide), flds_is hb [2, 2, 2, 4, 4] 32 (by simp; omega)]; rfl
  obtain ⟨m, hm⟩ : ∃ m, m = mdl c w := ⟨_, rfl⟩
  have ew : wC m = les [(4, 33639248), (2, 45), (2, if exN c = 0 then 20 else 45), (2, 2048)] ++ (les [(2, m.1.1), (2, timeN m.1.2.1), (2, dateN m.1.2.1)] ++ (les [(4, c.1.2.2.1), (4, mn 4294967295 c.1.2.2.2.1), (4, mn 4294967295 c.1.2.2.2.2.1)] ++ (les [(2, (m.1.2.2.2.2.2.1.size : Int)), (2, ((exB c).length : Int))] ++ (les [(2, 0), (2, mn 65535 c.2.1), (2, 0), (4, 0), (4, mn 4294967295 c.2.2.1)] ++ (sbytes m.1.2.2.2.2.2.1 ++ exB c))))) := by
    subst hm
    have : les (cN (mdl c w) (mdl c w).1.1 (timeN (mdl c w).1.2.1) (dateN (mdl c w).1.2.1)) = les ([(4, 33639248), (2, 45), (2, if exN c = 0 then 20 else 45), (2, 2048)] ++ ([(2, (mdl c w).1.1), (2, timeN (mdl c w).1.2.1), (2, dateN (mdl c w).1.2.1)] ++ ([(4, c.1.2.2.1), (4, mn 4294967295 c.1.2.2.2.1), (4, mn 4294967295 c.1.2.2.2.2.1)] ++ ([(2, ((mdl c w).1.2.2.2.2.2.1.size : Int)), (2, ((exB c).length : Int))] ++ [(2, 0), (2, mn 65535 c.2.1), (2, 0), (4, 0), (4, mn 4294967295 c.2.2.1)])))) := rfl
    rw [les_append, les_append, les_append, les_append] at this
    show les (cN (mdl c w) (mdl c w).1.1 (timeN (mdl c w).1.2.1) (dateN (mdl c w).1.2.1)) ++ (sbytes (mdl c w).1.2.2.2.2.2.1 ++ exB c) = _
    rw [this]
    simp only [List.append_assoc]
  have f1 : sl (wC m) 0 10 = les [(4, 33639248), (2, 45), (2, if exN c = 0 then 20 else 45), (2, 2048)] := by
    rw [ew]; exact sl_mid (P := ([] : List Int)) (Q := les [(4, 33639248), (2, 45), (2, if exN c = 0 then 20 else 45), (2, 2048)]) (p := 0) (q := 10) rfl rfl
  have f2 : sl (wC m) 16 28 = les [(4, c.1.2.2.1), (4, mn 4294967295 c.1.2.2.2.1), (4, mn 4294967295 c.1.2.2.2.2.1)] := by
    rw [ew, ← List.append_assoc]; exact sl_mid rfl rfl
  have f3 : sl (wC m) 32 46 = les [(2, 0), (2, mn 65535 c.2.1), (2, 0), (4, 0), (4, mn 4294967295 c.2.2.1)] := by
    rw [ew, ← List.append_assoc, ← List.append_assoc, ← List.append_assoc]; exact sl_mid rfl rfl
  rw [← hm]
  unfold sls
  rw [f1, f2, f3, e1, e2, e3, Bool.and_eq_true, Bool.and_eq_true, decide_eq_true_eq, decide_eq_true_eq, decide_eq_true_eq]
  refine ⟨fun ⟨⟨a, b'⟩, c'⟩ => ?_, fun h => ⟨⟨?_, ?_⟩, ?_⟩⟩
  · have i1 := les_inj (by rfl) (by
      intro x hx
      simp only [List.mem_cons, List.not_mem_nil, or_false] at hx
      rcases hx with rfl | rfl | rfl | rfl
      · exact ⟨by decide, by decide⟩
      · exact ⟨by decide, by decide⟩
      · exact hv
      · exact ⟨by decide, by decide⟩) (by
      intro x hx
      simp only [flds, List.mem_cons, List.not_mem_nil, or_false] at hx
      rcases hx with rfl | rfl | rfl | rfl
      · exact g4 _
      · exact g2 _
      · exact g2 _
      · exact g2 _) a
    have i2 := les_inj (by rfl) (by
      intro x hx
      simp only [List.mem_cons, List.not_mem_nil, or_false] at hx
      rcases hx with rfl | rfl | rfl
      · exact hk.hd.sum
      · exact ⟨q1.1, by rw [p4]; omega⟩
      · exact ⟨q2.1, by rw [p4]; omega⟩) (by
      intro x hx
      simp only [flds, List.mem_cons, List.not_mem_nil, or_false] at hx
      rcases hx with rfl | rfl | rfl
      · exact g4 _
      · exact g4 _
      · exact g4 _) b'
    have i3 := les_inj (by rfl) (by
      intro x hx
      simp only [List.mem_cons, List.not_mem_nil, or_false] at hx
      rcases hx with rfl | rfl | rfl | rfl | rfl
      · exact ⟨by decide, by decide⟩
      · exact ⟨q3.1, by rw [p2]; omega⟩
      · exact ⟨by decide, by decide⟩
      · exact ⟨by decide, by decide⟩
      · exact ⟨q4.1, by rw [p4]; omega⟩) (by
      intro x hx
      simp only [flds, List.mem_cons, List.not_mem_nil, or_false] at hx
      rcases hx with rfl | rfl | rfl | rfl | rfl
      · exact g2 _
      · exact g2 _
      · exact g2 _
      · exact g4 _
      · exact g4 _) c'
    simp only [flds, List.cons.injEq, Prod.mk.injEq, true_and, and_true, Nat.reduceAdd] at i1 i2 i3
    obtain ⟨a0, a4, a6, a8⟩ := i1
    obtain ⟨a16, a20, a24⟩ := i2
    obtain ⟨a32, a34, a36, a38, a42⟩ := i3
    exact ⟨a0.symm, a4.symm, a6.symm, a8.symm, a20.symm, a24.symm, h30, a32.symm, a34.symm, a36.symm, a38.symm, a42.symm⟩
  · simp only [flds, Nat.reduceAdd, h.h0, h.h4, h.h6, h.h8]
  · simp only [flds, Nat.reduceAdd, ← hsu, h.h20, h.h24]
  · simp only [flds, Nat.reduceAdd, h.h32, h.h34, h.h36, h.h38, h.h42]
/-- the form is as it must be -/
def Fm (b : List Int) : Prop := Hd b (rE b) ∧ exB (rE b) = cEx b
noncomputable def pcV (n : Nat) (b : List Int) : Rec × Int × Int × Unit := by
  classical
  exact
  if b.length < 4 ∨ gt b 0 4 ≠ 33639248 then (zR, 0, 44, ())
  else if b.length < 46 ∨ (b.length : Int) < 46 + gt b 28 2 + gt b 30 2 then (zR, 0, 20, ())
  else if ¬ Fm b then (zR, 0, 21, ())
  else if chkV n (rE b).1 = 43 then (zR, 0, 43, ())
  else if ¬ StOk (unS (gt b 14 2) (gt b 12 2)) then (zR, 0, 41, ())
  else if chkV n (rE b).1 ≠ 0 then (zR, 0, chkV n (rE b).1, ())
  else (rE b, 46 + gt b 28 2 + gt b 30 2, 0, ())
theorem pc44 {n : Nat} {b : List Int} (h : b.length < 4 ∨ gt b 0 4 ≠ 33639248) : pcV n b = (zR, 0, 44, ()) := by unfold pcV; exact if_pos h
theorem pc20 {n : Nat} {b : List Int} (h : ¬ (b.length < 4 ∨ gt b 0 4 ≠ 33639248)) (h2 : b.length < 46 ∨ (b.length : Int) < 46 + gt b 28 2 + gt b 30 2) : pcV n b = (zR, 0, 20, ()) := by unfold pcV; exact (if_neg h).trans (if_pos h2)
theorem pc21 {n : Nat} {b : List Int} (h : ¬ (b.length < 4 ∨ gt b 0 4 ≠ 33639248)) (h2 : ¬ (b.length < 46 ∨ (b.length : Int) < 46 + gt b 28 2 + gt b 30 2)) (h3 : ¬ Fm b) : pcV n b = (zR, 0, 21, ()) := by unfold pcV; exact ((if_neg h).trans (if_neg h2)).trans (if_pos h3)
theorem pc_ok {n : Nat} {b : List Int} (h : ¬ (b.length < 4 ∨ gt b 0 4 ≠ 33639248)) (h2 : ¬ (b.length < 46 ∨ (b.length : Int) < 46 + gt b 28 2 + gt b 30 2)) (h3 : Fm b) : pcV n b = if chkV n (rE b).1 = 43 then (zR, 0, 43, ())
  else if ¬ StOk (unS (gt b 14 2) (gt b 12 2)) then (zR, 0, 41, ())
  else if chkV n (rE b).1 ≠ 0 then (zR, 0, chkV n (rE b).1, ())
  else (rE b, 46 + gt b 28 2 + gt b 30 2, 0, ()) := by unfold pcV; exact ((if_neg h).trans (if_neg h2)).trans (if_neg (not_not_intro h3))
def wrg (b : List Int) : Int := if StOk (unS (gt b 14 2) (gt b 12 2)) then 0 else 41
section
variable {n : Nat} (hn : 1000 ≤ n) (hn' : n ≤ 1000000) (hnx : nmV n (ByteArray.mk #[120]) = 0) {b : List Int} (hb : By b) (hl : b.length ≤ 1000000)
include hn hn' hnx hb hl
theorem judged (h46 : 46 ≤ b.length) (hs : gt b 0 4 = 33639248) (hlen : 46 + gt b 28 2 + gt b 30 2 ≤ b.length) : central_judge.f n ((toldV (cEx b) (rc0 b)).1, b.take (46 + (gt b 28 2).toNat + (gt b 30 2).toNat), (toldV (cEx b) (rc0 b)).2, wrg b, ()) = some (pcV n b) := by
  have r1 := gt2 hb 28
  have r2 := gt2 hb 30
  have n1 : ¬ (b.length < 4 ∨ gt b 0 4 ≠ 33639248) := by omega
  have n2 : ¬ (b.length < 46 ∨ (b.length : Int) < 46 + gt b 28 2 + gt b 30 2) := by omega
  have hsz : (strOf (cNm b)).size = (gt b 28 2).toNat := by rw [str_size, cNm_len hb hlen]
  have he := cEx_by hb
  have hok : RcOk (toldV (cEx b) (rc0 b)).1 := told_ok he (rc0_ok hb)
  have hnm : (toldV (cEx b) (rc0 b)).1.1.2.2.2.2.2.1 = strOf (cNm b) := (told_keeps (cEx b) (rc0 b)).1
  have hsu : (toldV (cEx b) (rc0 b)).1.1.2.2.1 = gt b 16 4 := (told_keeps (cEx b) (rc0 b)).2.1
  have hst : (toldV (cEx b) (rc0 b)).1.1.2.1 = (rc0 b).1.2.1 := (told_keeps (cEx b) (rc0 b)).2.2
  have htl : (b.take (46 + (gt b 28 2).toNat + (gt b 30 2).toNat)).length = 46 + (gt b 28 2).toNat + (gt b 30 2).toNat := by rw [List.length_take]; omega
  have hw : wrg b ≠ 0 ∨ StOk (toldV (cEx b) (rc0 b)).1.1.2.1 := by
    unfold wrg
    rw [hst]
    by_cases h : StOk (unS (gt b 14 2) (gt b 12 2))
    · exact .inr (by show StOk (if StOk (unS (gt b 14 2) (gt b 12 2)) then _ else _); rw [if_pos h]; exact h)
    · exact .inl (by rw [if_neg h]; decide)
  rw [judge_is hn hn' hnx _ hok _ (by rw [hnm, hsz, htl]; omega) (by rw [htl]; omega) _ _ hw, hnm, hsz, htl]
  have hd : (b.take (46 + (gt b 28 2).toNat + (gt b 30 2).toNat)).drop (46 + (gt b 28 2).toNat) = cEx b := by
    unfold cEx
    rw [List.drop_take, Nat.add_sub_cancel_left]
  have hss : ∀ x, sls x (b.take (46 + (gt b 28 2).toNat + (gt b 30 2).toNat)) = sls x b := fun x => by
    unfold sls
    rw [sl_take _ (by omega), sl_take _ (by omega), sl_take _ (by omega)]
  rw [hd, hss]
  have hcl := cEx_len hb hlen
  by_cases hF : Fm b
  · have ht := told_of hb hF.1 hF.2
    rw [ht] at hok hnm hsu ⊢
    have h30 : gt b 30 2 = ((exB (rE b)).length : Int) := by rw [hF.2, hcl]; omega
    have hsl := (sls_iff hb h46 hok hsu (wrg b) h30).2 hF.1
    rw [if_pos ⟨by rw [Bool.true_and]; exact hsl, hF.2⟩, pc_ok n1 n2 hF]
    by_cases c1 : chkV n (rE b).1 = 43
    · rw [if_pos c1, if_pos c1]
    · rw [if_neg c1, if_neg c1]
      by_cases c2 : StOk (unS (gt b 14 2) (gt b 12 2))
      · rw [if_neg (show ¬ wrg b ≠ 0 by unfold wrg; rw [if_pos c2]; decide), if_neg (not_not_intro c2)]
        rw [show ((46 + (gt b 28 2).toNat + (gt b 30 2).toNat : Nat) : Int) = 46 + gt b 28 2 + gt b 30 2 by omega]
      · rw [if_pos (show wrg b ≠ 0 by unfold wrg; rw [if_neg c2]; decide), if_pos c2]
        unfold wrg
        rw [if_neg c2]
  · rw [pc21 n1 n2 hF, if_neg]
    intro ⟨h1, h2⟩
    rw [Bool.and_eq_true] at h1
    have h30 : gt b 30 2 = ((exB (toldV (cEx b) (rc0 b)).1).length : Int) := by rw [h2, hcl]; omega
    have hH := (sls_iff hb h46 hok hsu (wrg b) h30).1 h1.2
    have ht := told_of hb hH h2
    rw [ht] at hH h2
    exact hF ⟨hH, h2⟩
theorem cparse_is : central_Parse.f n (b, ()) = some (pcV n b) := by
  rw [central_Parse.eq, little_Read.eq, Option.bind_some]
  by_cases h4 : b.length < 4
  · rw [pc44 (.inl h4)]
    have h := bytes_short (n := n) hl (a := 0) (k := 4) (by omega) (by decide) (by omega)
    have hg := get_is (n := n) (by omega) By.nil (by simp)
    have hnum : little_Reader_Num.f n ((b, ((0 : Nat) : Int), false, ()), 4, ()) = some ((b, ((0 : Nat) : Int), true, ()), 0, ()) := by
      rw [little_Reader_Num.eq, held_le _ (by omega) (by omega), Option.bind_some]
      refine (congrArg (Option.bind · _) h).trans ?_
      rw [Option.bind_some]
      refine (congrArg (Option.bind · _) hg).trans ?_
      rfl
    refine (bindE hnum).trans ?_
    rfl
  · refine (bindE (num_four hn hb hl (a := 0) (by omega))).trans ?_
    by_cases hs : gt b 0 4 = 33639248
    · rw [if_neg (by simp [hs])]
      by_cases h46 : b.length < 46
      · rw [pc20 (by omega) (.inl h46)]
        refine (bindE (bytes_short (n := n) hl (a := 4) (k := 42) (by omega) (by decide) (by omega))).trans ?_
        refine (bindE (little_Reader_Short.eq ..)).trans ?_
        rfl
      · have r10 := gt2 hb 10
        have r12 := gt2 hb 12
        have r14 := gt2 hb 14
        have r16 := gt4 hb 16
        have r28 := gt2 hb 28
        have r30 := gt2 hb 30
        have r34 := gt2 hb 34
        refine (bindE (bytes_ok (n := n) hl (a := 4) (k := 42) (by omega))).trans ?_
        refine (bindE (little_Reader_Short.eq ..)).trans ?_
        refine (if_neg (show ¬ ((false : Bool) = true) by decide)).trans ?_
        refine (bindE (pat_is hn hb (by omega) (i := 28) (k := 2) (by decide) (by decide) (by decide))).trans ?_
        refine (bindE (pat_is hn hb (by omega) (i := 30) (k := 2) (by decide) (by decide) (by decide))).trans ?_
        refine (bindE (little_Reader_Left.eq ..)).trans ?_
        have e1 : wr .i64 (gt b 28 2) = gt b 28 2 := wr64 (by omega) (by omega)
        have e2 : wr .i64 (gt b 30 2) = gt b 30 2 := wr64 (by omega) (by omega)
        have e3 : wr .i64 (gt b 28 2 + gt b 30 2) = gt b 28 2 + gt b 30 2 := wr64 (by omega) (by omega)
        have e4 : wr .i64 ((b.length : Int) - ((4 + 42 : Nat) : Int)) = (b.length : Int) - 46 := by rw [wr64 (by omega) (by omega)]; omega
        by_cases hlen : (b.length : Int) < 46 + gt b 28 2 + gt b 30 2
        · rw [pc20 (by omega) (.inr hlen)]
          refine (if_pos ?_).trans rfl
          dsimp only
          rw [e1, e2, e3, e4]
          have hlt : (b.length : Int) - 46 < gt b 28 2 + gt b 30 2 := by omega
          exact decide_eq_true hlt
        · refine (if_neg ?_).trans ?_
          · dsimp only
            rw [e1, e2, e3, e4]
            simp; omega
          refine (bindE (pat_is hn hb (by omega) (i := 14) (k := 2) (by decide) (by decide) (by decide))).trans ?_
          refine (bindE (pat_is hn hb (by omega) (i := 12) (k := 2) (by decide) (by decide) (by decide))).trans ?_
          have e14 : wr .u16 (gt b 14 2) = gt b 14 2 := by rw [wru16]; omega
          have e12 : wr .u16 (gt b 12 2) = gt b 12 2 := by rw [wru16]; omega
          have e34 : wr .u32 (gt b 34 2) = gt b 34 2 := by rw [wru32]; omega
          have e16 : wr .u32 (gt b 16 4) = gt b 16 4 := by rw [wru32]; omega
          have e10 : wr .i64 (gt b 10 2) = gt b 10 2 := wr64 (by omega) (by omega)
          have hu : stamp_Unpack.f n (wr .u16 (gt b 14 2), wr .u16 (gt b 12 2), ()) = some ((rc0 b).1.2.1, wrg b, ()) := by
            rw [e14, e12, stUnpack_is n _ r14.1 r14.2 r12.1 r12.2]
            show _ = some (if StOk (unS (gt b 14 2) (gt b 12 2)) then unS (gt b 14 2) (gt b 12 2) else zS, if StOk (unS (gt b 14 2) (gt b 12 2)) then 0 else 41, ())
            dsimp only
            split <;> rfl
          refine (bindE hu).trans ?_
          refine (bindE (pat_is hn hb (by omega) (i := 34) (k := 2) (by decide) (by decide) (by decide))).trans ?_
          refine (bindE (pat_is hn hb (by omega) (i := 42) (k := 4) (by decide) (by decide) (by decide))).trans ?_
          refine (bindE (pat_is hn hb (by omega) (i := 10) (k := 2) (by decide) (by decide) (by decide))).trans ?_
          refine (bindE (pat_is hn hb (by omega) (i := 16) (k := 4) (by decide) (by decide) (by decide))).trans ?_
          refine (bindE (pat_is hn hb (by omega) (i := 20) (k := 4) (by decide) (by decide) (by decide))).trans ?_
          refine (bindE (pat_is hn hb (by omega) (i := 24) (k := 4) (by decide) (by decide) (by decide))).trans ?_
          have hB1 := bytes_ok (n := n) hl (a := 46) (k := (gt b 28 2).toNat) (by omega)
          have hB2 := bytes_ok (n := n) hl (a := 46 + (gt b 28 2).toNat) (k := (gt b 30 2).toNat) (by omega)
          rw [show (((gt b 28 2).toNat : Nat) : Int) = wr .i64 (gt b 28 2) by rw [e1]; omega] at hB1
          rw [show (((gt b 30 2).toNat : Nat) : Int) = wr .i64 (gt b 30 2) by rw [e2]; omega] at hB2
          refine (bindE hB1).trans ?_
          refine (bindE hB2).trans ?_
          have hcl := cEx_len hb (by omega)
          have ht := told_is hn hn' (cEx_by hb) (by rw [hcl]; omega) (rc0 b) (rc0_ok hb)
          have ht' : central_told.f n ((wr .i64 (gt b 10 2), (rc0 b).1.2.1.1, (rc0 b).1.2.1.2.1, (rc0 b).1.2.1.2.2.1, (rc0 b).1.2.1.2.2.2.1, (rc0 b).1.2.1.2.2.2.2.1, (rc0 b).1.2.1.2.2.2.2.2.1, wr .u32 (gt b 16 4), gt b 20 4, gt b 24 4, strOf (cNm b), wr .u32 (gt b 34 2), gt b 42 4, ()), cEx b, ()) = some (bxOf (toldV (cEx b) (rc0 b)).1, (toldV (cEx b) (rc0 b)).2, ()) := by
            rw [e10, e16, e34]; exact ht
          refine (bindE ht').trans ?_
          refine (bindE (little_Reader_At.eq ..)).trans ?_
          refine (if_pos (by show (0 : Int) ≤ ((46 + (gt b 28 2).toNat + (gt b 30 2).toNat : Nat) : Int); omega)).trans ?_
          refine (if_pos (by show ((46 + (gt b 28 2).toNat + (gt b 30 2).toNat : Nat) : Int) ≤ (b.length : Int); omega)).trans ?_
          have hj := judged hn hn' hnx hb hl (by omega) hs (by omega)
          refine (bindE hj).trans ?_
          rfl
    · rw [if_pos (by simp [hs]), pc44 (.inr hs)]
      rfl
end
end Go.Proofs.YtcnegcjjeakmmaaDoor.Vm

namespace Go.Proofs.YtcnegcjjeakmmaaDoor.Vm
open Go Go.RowKit
set_option linter.unusedVariables false
set_option linter.unusedSimpArgs false
set_option linter.unusedSectionVars false
set_option maxRecDepth 10000
/-- a number that may not fit, read if it can be -/
def lr (b : List Int) (E f k : Nat) (x full : Int) : Nat × Int := if x = full ∧ f + k ≤ E then (f + k, gt b f k) else (f, x)
def lfl (E f k : Nat) (x full : Int) : Bool := decide (x = full ∧ f + k ≤ E)
section
variable (b : List Int)
def nN : Nat := (gt b 28 2).toNat
def eN : Nat := 46 + (gt b 28 2).toNat + (gt b 30 2).toNat
def d1 : Nat × Int := lr b (eN b) (50 + nN b) 8 (gt b 24 4) 4294967295
def d2 : Nat × Int := lr b (eN b) (d1 b).1 8 (gt b 20 4) 4294967295
def d3 : Nat × Int := lr b (eN b) (d2 b).1 8 (gt b 42 4) 4294967295
def d4 : Nat × Int := lr b (eN b) (d3 b).1 4 (gt b 34 2) 65535
def rD : Rec := rcV b (d2 b).2 (d1 b).2 (d3 b).2 (d4 b).2
end
theorem lr_range {b : List Int} (hb : By b) (E f k : Nat) (x full : Int) {Z : Int} (hZ : (256 : Int) ^ k ≤ Z) (hx : 0 ≤ x ∧ x < Z) : 0 ≤ (lr b E f k x full).2 ∧ (lr b E f k x full).2 < Z := by
  unfold lr
  split
  · have := gt_range hb f k
    show 0 ≤ gt b f k ∧ gt b f k < Z
    omega
  · exact hx
theorem lr_le (b : List Int) {E f k : Nat} {x full : Int} {B : Nat} (h : f ≤ B) : (lr b E f k x full).1 ≤ B + k := by
  unfold lr
  split
  · show f + k ≤ _; omega
  · show f ≤ _; omega
theorem zS_no : ¬ StOk zS := by decide +kernel
theorem rD_ok {b : List Int} (hb : By b) : RcOk (rD b) := by
  have h1 := gt4 hb 20
  have h2 := gt4 hb 24
  have h3 := gt2 hb 34
  have h4 := gt4 hb 42
  exact ⟨⟨gt4 hb 16, lr_range hb _ _ 8 _ _ (by decide) (by omega), lr_range hb _ _ 8 _ _ (by decide) (by omega)⟩, lr_range hb _ _ 4 _ _ (by decide) (by omega), lr_range hb _ _ 8 _ _ (by decide) (by omega)⟩
theorem cEx_gt {b : List Int} {i k : Nat} (h : i + k ≤ (gt b 30 2).toNat) : gt (cEx b) i k = gt b (46 + nN b + i) k := by
  unfold cEx nN
  rw [gt_take _ _ _ _ h]
  unfold gt
  rw [List.drop_drop]
theorem rD_fits {b : List Int} (hb : By b) (h : (gt b 30 2).toNat = if a4 b = 0 then 0 else 4 + a4 b) : rD b = rE b := by
  by_cases h0 : a4 b = 0
  · have h1 : gt b 24 4 ≠ 4294967295 ∧ gt b 20 4 ≠ 4294967295 ∧ gt b 42 4 ≠ 4294967295 ∧ gt b 34 2 ≠ 65535 := by
      unfold a4 a3 a2 a1 at h0
      refine ⟨fun h' => ?_, fun h' => ?_, fun h' => ?_, fun h' => ?_⟩ <;> rw [if_pos h'] at h0 <;> omega
    obtain ⟨h1, h2, h3, h4⟩ := h1
    unfold rD d4 d3 d2 d1 rE pV sV oV dV lr
    simp only [h1, h2, h3, h4, false_and, if_false]
  · rw [if_neg h0] at h
    have b4 : a4 b = a3 b + if gt b 34 2 = 65535 then 4 else 0 := rfl
    have b3 : a3 b = a2 b + if gt b 42 4 = 4294967295 then 8 else 0 := rfl
    have b2 : a2 b = a1 b + if gt b 20 4 = 4294967295 then 8 else 0 := rfl
    have b1 : a1 b = if gt b 24 4 = 4294967295 then 8 else 0 := rfl
    have hE : eN b = 50 + nN b + a4 b := by unfold eN nN; omega
    have m2 : a1 b ≤ a2 b := by rw [b2]; omega
    have m3 : a2 b ≤ a3 b := by rw [b3]; omega
    have m4 : a3 b ≤ a4 b := by rw [b4]; omega
    have e1 : d1 b = (50 + nN b + a1 b, sV b) := by
      unfold d1 lr sV
      by_cases h : gt b 24 4 = 4294967295
      · have c1 : a1 b = 8 := by rw [b1, if_pos h]
        rw [if_pos ⟨h, by omega⟩, if_pos h, cEx_gt (by omega), c1]
        rw [show 46 + nN b + 4 = 50 + nN b by omega]
      · rw [if_neg (fun h' => h h'.1), b1, if_neg h, if_neg h]; rfl
    have e2 : d2 b = (50 + nN b + a2 b, pV b) := by
      unfold d2
      rw [e1]
      unfold lr pV
      by_cases h : gt b 20 4 = 4294967295
      · have c2 : a2 b = a1 b + 8 := by rw [b2, if_pos h]
        rw [if_pos ⟨h, by show 50 + nN b + a1 b + 8 ≤ _; omega⟩, if_pos h, cEx_gt (by omega), c2]
        rw [show 46 + nN b + (4 + a1 b) = 50 + nN b + a1 b by omega]; rfl
      · rw [if_neg (fun h' => h h'.1), b2, if_neg h, if_neg h]; rfl
    have e3 : d3 b = (50 + nN b + a3 b, oV b) := by
      unfold d3
      rw [e2]
      unfold lr oV
      by_cases h : gt b 42 4 = 4294967295
      · have c3 : a3 b = a2 b + 8 := by rw [b3, if_pos h]
        rw [if_pos ⟨h, by show 50 + nN b + a2 b + 8 ≤ _; omega⟩, if_pos h, cEx_gt (by omega), c3]
        rw [show 46 + nN b + (4 + a2 b) = 50 + nN b + a2 b by omega]; rfl
      · rw [if_neg (fun h' => h h'.1), b3, if_neg h, if_neg h]; rfl
    have e4 : d4 b = (50 + nN b + a4 b, dV b) := by
      unfold d4
      rw [e3]
      unfold lr dV
      by_cases h : gt b 34 2 = 65535
      · have c4 : a4 b = a3 b + 4 := by rw [b4, if_pos h]
        rw [if_pos ⟨h, by show 50 + nN b + a3 b + 4 ≤ _; omega⟩, if_pos h, cEx_gt (by omega), c4]
        rw [show 46 + nN b + (4 + a3 b) = 50 + nN b + a3 b by omega]; rfl
      · rw [if_neg (fun h' => h h'.1), b4, if_neg h, if_neg h]; rfl
    unfold rD rE
    rw [e1, e2, e3, e4]
theorem rD_form {b : List Int} (hb : By b) (hlen : 46 + gt b 28 2 + gt b 30 2 ≤ b.length) : (cB (rD b) (gt b 10 2) (gt b 12 2) (gt b 14 2) = b.take (eN b) ↔ Fm b) ∧ (Fm b → rD b = rE b) := by
  have hcl := cEx_len hb hlen
  have hf : ∀ c, Hd b c → exB c = cEx b → rD b = rE b := fun c h1 h2 => by
    have hl := exB_len c
    rw [h1.n, h2, hcl] at hl
    exact rD_fits hb hl
  have hi := form_iff hb hlen (rD b) (rD_ok hb) rfl rfl
  refine ⟨hi.trans ⟨fun ⟨h1, h2⟩ => ?_, fun h => ?_⟩, fun h => hf _ h.1 h.2⟩
  · have := hf _ h1 h2
    rw [this] at h1 h2
    exact ⟨h1, h2⟩
  · rw [hf _ h.1 h.2]
    exact h
section
variable {n : Nat} (hn : 1000 ≤ n) (hn' : n ≤ 1000000) {b : List Int} (hb : By b) (hl : b.length ≤ 1000000)
include hn hb hl
theorem rat_is {i k : Nat} (hk : k ≤ 8) (h : i + k ≤ b.length) : ref19_at.f n (b, (i : Int), (k : Int), ()) = some (gt b i k, ()) := by
  have e : wr .i64 ((i : Int) + (k : Int)) = ((i + k : Nat) : Int) := by rw [wr64 (by omega) (by omega)]; omega
  rw [ref19_at.eq, e, if_pos (by omega), if_pos (by omega), if_pos (by omega), Int.toNat_natCast, Int.toNat_natCast, cut_is, rget_is (by omega) ((hb.drop i).take k) (by rw [List.length_take]; omega), Option.bind_some]
  rfl
include hn'
theorem rcparse_is (hq : b.length + 100 ≤ n) : ref19_Parse.f n (b, ()) = some (pcV n b) := by
  rw [ref19_Parse.eq]
  by_cases h4 : b.length < 4
  · rw [pc44 (.inl h4)]
    refine (bindE (if_pos (by simp; omega))).trans ?_
    rfl
  · by_cases hs : gt b 0 4 = 33639248
    · refine (bindE (a := (b, bxOf zR, false, ())) ?_).trans ?_
      · refine (if_neg (by simp; omega)).trans ?_
        refine (bindE (rat_is hn hb hl (i := 0) (k := 4) (by decide) (by omega))).trans ?_
        rw [hs]; rfl
      refine (if_neg (show ¬ ((false : Bool) = true) by decide)).trans ?_
      by_cases h46 : b.length < 46
      · rw [pc20 (by omega) (.inl h46)]
        refine (if_pos ?_).trans rfl
        exact decide_eq_true (show (b.length : Int) < 46 by omega)
      · refine (if_neg (show ¬ (decide ((b.length : Int) < 46) = true) by simp; omega)).trans ?_
        have r10 := gt2 hb 10
        have r12 := gt2 hb 12
        have r14 := gt2 hb 14
        have r16 := gt4 hb 16
        have r28 := gt2 hb 28
        have r30 := gt2 hb 30
        have r34 := gt2 hb 34
        have e1 : wr .i64 (gt b 28 2) = gt b 28 2 := wr64 (by omega) (by omega)
        have e2 : wr .i64 (gt b 30 2) = gt b 30 2 := wr64 (by omega) (by omega)
        have e3 : wr .i64 (46 + gt b 28 2) = 46 + gt b 28 2 := wr64 (by omega) (by omega)
        have e4 : wr .i64 (46 + gt b 28 2 + gt b 30 2) = 46 + gt b 28 2 + gt b 30 2 := wr64 (by omega) (by omega)
        have e5 : wr .i64 (50 + gt b 28 2) = 50 + gt b 28 2 := wr64 (by omega) (by omega)
        refine (bindE (rat_is hn hb hl (i := 28) (k := 2) (by decide) (by omega))).trans ?_
        refine (bindE (rat_is hn hb hl (i := 30) (k := 2) (by decide) (by omega))).trans ?_
        by_cases hlen : (b.length : Int) < 46 + gt b 28 2 + gt b 30 2
        · rw [pc20 (by omega) (.inr hlen)]
          refine (if_pos ?_).trans rfl
          dsimp only
          rw [e1, e2, e3, e4]
          exact decide_eq_true hlen
        · refine (if_neg ?_).trans ?_
          · dsimp only
            rw [e1, e2, e3, e4]
            simp; omega
          have e14 : wr .u16 (gt b 14 2) = gt b 14 2 := by rw [wru16]; omega
          have e12 : wr .u16 (gt b 12 2) = gt b 12 2 := by rw [wru16]; omega
          have e34 : wr .u32 (gt b 34 2) = gt b 34 2 := by rw [wru32]; omega
          have e16 : wr .u32 (gt b 16 4) = gt b 16 4 := by rw [wru32]; omega
          have e10 : wr .i64 (gt b 10 2) = gt b 10 2 := wr64 (by omega) (by omega)
          refine (bindE (rat_is hn hb hl (i := 10) (k := 2) (by decide) (by omega))).trans ?_
          refine (bindE (rat_is hn hb hl (i := 12) (k := 2) (by decide) (by omega))).trans ?_
          refine (bindE (rat_is hn hb hl (i := 14) (k := 2) (by decide) (by omega))).trans ?_
          refine (bindE (rat_is hn hb hl (i := 34) (k := 2) (by decide) (by omega))).trans ?_
          refine (bindE (rat_is hn hb hl (i := 42) (k := 4) (by decide) (by omega))).trans ?_
          have hu : ref17_Unpack.f n (wr .u16 (gt b 14 2), wr .u16 (gt b 12 2), ()) = some ((rc0 b).1.2.1, decide (StOk (unS (gt b 14 2) (gt b 12 2))), ()) := by
            rw [e14, e12, runpack_is n _ _ r14.1 r14.2 r12.1 r12.2]
            rfl
          refine (bindE hu).trans ?_
          have hN : ((nN b : Nat) : Int) = gt b 28 2 := by unfold nN; omega
          have hE : ((eN b : Nat) : Int) = 46 + gt b 28 2 + gt b 30 2 := by unfold eN; omega
          have f1 : wr .i64 (46 + wr .i64 (gt b 28 2)) = ((46 + nN b : Nat) : Int) := by rw [e1, e3]; omega
          have f2 : wr .i64 (50 + wr .i64 (gt b 28 2)) = ((50 + nN b : Nat) : Int) := by rw [e1, e5]; omega
          have f3 : wr .i64 (((46 + nN b : Nat) : Int) + wr .i64 (gt b 30 2)) = ((eN b : Nat) : Int) := by rw [e2, show ((46 + nN b : Nat) : Int) + gt b 30 2 = 46 + gt b 28 2 + gt b 30 2 by omega, e4]; omega
          dsimp only
          rw [f1, f2, f3]
          refine (if_pos (by decide)).trans ?_
          refine (if_pos (by omega)).trans ?_
          refine (if_pos (by omega)).trans ?_
          refine (bindE (rat_is hn hb hl (i := 16) (k := 4) (by decide) (by omega))).trans ?_
          refine (bindE (rat_is hn hb hl (i := 20) (k := 4) (by decide) (by omega))).trans ?_
          refine (bindE (rat_is hn hb hl (i := 24) (k := 4) (by decide) (by omega))).trans ?_
          have hnm : strOf (List.drop (Int.toNat 46) (List.take (Int.toNat ((46 + nN b : Nat) : Int)) b)) = strOf (cNm b) := by
            rw [Int.toNat_natCast]
            show strOf (List.drop 46 (List.take (46 + nN b) b)) = _
            rw [cut_is]; rfl
          have w1 : wr .i64 (((50 + nN b : Nat) : Int) + 8) = ((50 + nN b + 8 : Nat) : Int) := by rw [wr64 (by omega) (by omega)]; omega
          have l1 : gt b 24 4 = 4294967295 → decide (((50 + nN b + 8 : Nat) : Int) ≤ ((eN b : Nat) : Int)) = lfl (eN b) (50 + nN b) 8 (gt b 24 4) 4294967295 := fun h => by unfold lfl; exact decide_eq_decide.2 ⟨fun h' => ⟨h, by omega⟩, fun h' => by have := h'.2; omega⟩
          refine (bindE (a := (b, bxOf zR, gt b 10 2, gt b 12 2, gt b 14 2, bxOf (rc0 b), decide (StOk (unS (gt b 14 2) (gt b 12 2))), ((50 + nN b : Nat) : Int), ((eN b : Nat) : Int), lfl (eN b) (50 + nN b) 8 (gt b 24 4) 4294967295, ())) ?_).trans ?_
          · by_cases h : gt b 24 4 = 4294967295
            · refine (if_pos (by rw [beq_iff_eq]; exact h)).trans ?_
              rw [← l1 h, ← w1]
              dsimp only
              rw [e10, e16, e34, hnm]
              rfl
            · refine (if_neg (by rw [beq_iff_eq]; exact h)).trans ?_
              rw [show lfl (eN b) (50 + nN b) 8 (gt b 24 4) 4294967295 = false from decide_eq_false (fun h' => h h'.1)]
              dsimp only
              rw [e10, e16, e34, hnm]
              rfl
          refine (bindE (a := (b, bxOf zR, gt b 10 2, gt b 12 2, gt b 14 2, bxOf (rcV b (gt b 20 4) (d1 b).2 (gt b 42 4) (gt b 34 2)), decide (StOk (unS (gt b 14 2) (gt b 12 2))), (((d1 b).1 : Nat) : Int), ((eN b : Nat) : Int), ())) ?_).trans ?_
          · by_cases h : gt b 24 4 = 4294967295 ∧ 50 + nN b + 8 ≤ eN b
            · have hd : d1 b = (50 + nN b + 8, gt b (50 + nN b) 8) := if_pos h
              have hr : ref19_at.f n (b, ((50 + nN b : Nat) : Int), ((8 : Nat) : Int), ()) = some (gt b (50 + nN b) 8, ()) := rat_is hn hb hl (by decide) (by omega)
              refine (if_pos (decide_eq_true h)).trans ?_
              refine (bindE hr).trans ?_
              dsimp only
              rw [w1, hd]
              rfl
            · have hd : d1 b = (50 + nN b, gt b 24 4) := if_neg h
              refine (if_neg (show ¬ (lfl (eN b) (50 + nN b) 8 (gt b 24 4) 4294967295 = true) from fun h' => h (of_decide_eq_true h'))).trans ?_
              rw [hd]
              rfl
          have B1 : (d1 b).1 ≤ 50 + nN b + 8 := lr_le b (Nat.le_refl _)
          have w2 : wr .i64 ((((d1 b).1 : Nat) : Int) + 8) = (((d1 b).1 + 8 : Nat) : Int) := by rw [wr64 (by omega) (by omega)]; omega
          have l2 : gt b 20 4 = 4294967295 → decide ((((d1 b).1 + 8 : Nat) : Int) ≤ ((eN b : Nat) : Int)) = lfl (eN b) ((d1 b).1) 8 (gt b 20 4) 4294967295 := fun h => by unfold lfl; exact decide_eq_decide.2 ⟨fun h' => ⟨h, by omega⟩, fun h' => by have := h'.2; omega⟩
          refine (bindE (a := (b, bxOf zR, gt b 10 2, gt b 12 2, gt b 14 2, bxOf (rcV b (gt b 20 4) (d1 b).2 (gt b 42 4) (gt b 34 2)), decide (StOk (unS (gt b 14 2) (gt b 12 2))), (((d1 b).1 : Nat) : Int), ((eN b : Nat) : Int), lfl (eN b) ((d1 b).1) 8 (gt b 20 4) 4294967295, ())) ?_).trans ?_
          · by_cases h : gt b 20 4 = 4294967295
            · refine (if_pos (by rw [beq_iff_eq]; exact h)).trans ?_
              rw [← l2 h, ← w2]
            · refine (if_neg (by rw [beq_iff_eq]; exact h)).trans ?_
              rw [show lfl (eN b) ((d1 b).1) 8 (gt b 20 4) 4294967295 = false from decide_eq_false (fun h' => h h'.1)]
          refine (bindE (a := (b, bxOf zR, gt b 10 2, gt b 12 2, gt b 14 2, bxOf (rcV b (d2 b).2 (d1 b).2 (gt b 42 4) (gt b 34 2)), decide (StOk (unS (gt b 14 2) (gt b 12 2))), (((d2 b).1 : Nat) : Int), ((eN b : Nat) : Int), ())) ?_).trans ?_
          · by_cases h : gt b 20 4 = 4294967295 ∧ (d1 b).1 + 8 ≤ eN b
            · have hd : d2 b = ((d1 b).1 + 8, gt b ((d1 b).1) 8) := if_pos h
              have hr : ref19_at.f n (b, (((d1 b).1 : Nat) : Int), ((8 : Nat) : Int), ()) = some (gt b ((d1 b).1) 8, ()) := rat_is hn hb hl (by decide) (by omega)
              refine (if_pos (decide_eq_true h)).trans ?_
              refine (bindE hr).trans ?_
              dsimp only
              rw [w2, hd]
              rfl
            · have hd : d2 b = ((d1 b).1, gt b 20 4) := if_neg h
              refine (if_neg (show ¬ (lfl (eN b) ((d1 b).1) 8 (gt b 20 4) 4294967295 = true) from fun h' => h (of_decide_eq_true h'))).trans ?_
              rw [hd]
          have B2 : (d2 b).1 ≤ 50 + nN b + 8 + 8 := lr_le b B1
          have w3 : wr .i64 ((((d2 b).1 : Nat) : Int) + 8) = (((d2 b).1 + 8 : Nat) : Int) := by rw [wr64 (by omega) (by omega)]; omega
          have l3 : gt b 42 4 = 4294967295 → decide ((((d2 b).1 + 8 : Nat) : Int) ≤ ((eN b : Nat) : Int)) = lfl (eN b) ((d2 b).1) 8 (gt b 42 4) 4294967295 := fun h => by unfold lfl; exact decide_eq_decide.2 ⟨fun h' => ⟨h, by omega⟩, fun h' => by have := h'.2; omega⟩
          refine (bindE (a := (b, bxOf zR, gt b 10 2, gt b 12 2, gt b 14 2, bxOf (rcV b (d2 b).2 (d1 b).2 (gt b 42 4) (gt b 34 2)), decide (StOk (unS (gt b 14 2) (gt b 12 2))), (((d2 b).1 : Nat) : Int), ((eN b : Nat) : Int), lfl (eN b) ((d2 b).1) 8 (gt b 42 4) 4294967295, ())) ?_).trans ?_
          · by_cases h : gt b 42 4 = 4294967295
            · refine (if_pos (by rw [beq_iff_eq]; exact h)).trans ?_
              rw [← l3 h, ← w3]
            · refine (if_neg (by rw [beq_iff_eq]; exact h)).trans ?_
              rw [show lfl (eN b) ((d2 b).1) 8 (gt b 42 4) 4294967295 = false from decide_eq_false (fun h' => h h'.1)]
          refine (bindE (a := (b, bxOf zR, gt b 10 2, gt b 12 2, gt b 14 2, bxOf (rcV b (d2 b).2 (d1 b).2 (d3 b).2 (gt b 34 2)), decide (StOk (unS (gt b 14 2) (gt b 12 2))), (((d3 b).1 : Nat) : Int), ((eN b : Nat) : Int), ())) ?_).trans ?_
          · by_cases h : gt b 42 4 = 4294967295 ∧ (d2 b).1 + 8 ≤ eN b
            · have hd : d3 b = ((d2 b).1 + 8, gt b ((d2 b).1) 8) := if_pos h
              have hr : ref19_at.f n (b, (((d2 b).1 : Nat) : Int), ((8 : Nat) : Int), ()) = some (gt b ((d2 b).1) 8, ()) := rat_is hn hb hl (by decide) (by omega)
              refine (if_pos (decide_eq_true h)).trans ?_
              refine (bindE hr).trans ?_
              dsimp only
              rw [w3, hd]
              rfl
            · have hd : d3 b = ((d2 b).1, gt b 42 4) := if_neg h
              refine (if_neg (show ¬ (lfl (eN b) ((d2 b).1) 8 (gt b 42 4) 4294967295 = true) from fun h' => h (of_decide_eq_true h'))).trans ?_
              rw [hd]
          have B3 : (d3 b).1 ≤ 50 + nN b + 8 + 8 + 8 := lr_le b B2
          have w4 : wr .i64 ((((d3 b).1 : Nat) : Int) + 4) = (((d3 b).1 + 4 : Nat) : Int) := by rw [wr64 (by omega) (by omega)]; omega
          have l4 : gt b 34 2 = 65535 → decide ((((d3 b).1 + 4 : Nat) : Int) ≤ ((eN b : Nat) : Int)) = lfl (eN b) ((d3 b).1) 4 (gt b 34 2) 65535 := fun h => by unfold lfl; exact decide_eq_decide.2 ⟨fun h' => ⟨h, by omega⟩, fun h' => by have := h'.2; omega⟩
          refine (bindE (a := (b, bxOf zR, gt b 10 2, gt b 12 2, gt b 14 2, bxOf (rcV b (d2 b).2 (d1 b).2 (d3 b).2 (gt b 34 2)), decide (StOk (unS (gt b 14 2) (gt b 12 2))), (((d3 b).1 : Nat) : Int), ((eN b : Nat) : Int), lfl (eN b) ((d3 b).1) 4 (gt b 34 2) 65535, ())) ?_).trans ?_
          · by_cases h : gt b 34 2 = 65535
            · refine (if_pos (by rw [beq_iff_eq]; exact h)).trans ?_
              rw [← l4 h, ← w4]
            · refine (if_neg (by rw [beq_iff_eq]; exact h)).trans ?_
              rw [show lfl (eN b) ((d3 b).1) 4 (gt b 34 2) 65535 = false from decide_eq_false (fun h' => h h'.1)]
          refine (bindE (a := (b, bxOf zR, gt b 10 2, gt b 12 2, gt b 14 2, bxOf (rD b), decide (StOk (unS (gt b 14 2) (gt b 12 2))), ((eN b : Nat) : Int), ())) ?_).trans ?_
          · by_cases h : gt b 34 2 = 65535 ∧ (d3 b).1 + 4 ≤ eN b
            · have hd : d4 b = ((d3 b).1 + 4, gt b ((d3 b).1) 4) := if_pos h
              have hr : ref19_at.f n (b, (((d3 b).1 : Nat) : Int), ((4 : Nat) : Int), ()) = some (gt b ((d3 b).1) 4, ()) := rat_is hn hb hl (by decide) (by omega)
              refine (if_pos (decide_eq_true h)).trans ?_
              refine (bindE hr).trans ?_
              have g4 := gt4 hb ((d3 b).1)
              dsimp only
              unfold rD
              rw [hd, show wr .u32 (gt b ((d3 b).1) 4) = gt b ((d3 b).1) 4 by rw [wru32]; omega]
              rfl
            · have hd : d4 b = ((d3 b).1, gt b 34 2) := if_neg h
              refine (if_neg (show ¬ (lfl (eN b) ((d3 b).1) 4 (gt b 34 2) 65535 = true) from fun h' => h (of_decide_eq_true h'))).trans ?_
              unfold rD
              rw [hd]
          refine (if_pos (by show (0 : Int) ≤ ((eN b : Nat) : Int); omega)).trans ?_
          refine (if_pos (by show ((eN b : Nat) : Int) ≤ (b.length : Int); omega)).trans ?_
          have hsz : (rD b).1.2.2.2.2.2.1.size = nN b := by
            show (strOf (cNm b)).size = nN b
            rw [str_size, cNm_len hb (by omega)]; rfl
          refine (bindE (rcbytes_is hn hn' (rD b) (rD_ok hb) (by rw [hsz]; omega) (m := gt b 10 2) (t := gt b 12 2) (d := gt b 14 2) (by omega) (by omega) (by omega))).trans ?_
          have h28 := exN_le (rD b)
          have hel := exB_len (rD b)
          have hcl : (cB (rD b) (gt b 10 2) (gt b 12 2) (gt b 14 2)).length < n := by
            rw [cB_len, hsz, hel]; split <;> omega
          refine (bindE (same_is hcl (by omega))).trans ?_
          obtain ⟨hF1, hF2⟩ := rD_form hb (by omega)
          by_cases hF : Fm b
          · refine (if_neg ?_).trans ?_
            · dsimp only
              rw [Int.toNat_natCast]
              simp [hF1.2 hF]
            rw [pc_ok (by omega) (by omega) hF, hF2 hF]
            refine (bindE (a := (bxOf zR, bxOf (rE b), decide (StOk (unS (gt b 14 2) (gt b 12 2))), ((eN b : Nat) : Int), decide (gt b 10 2 ≠ 0 ∧ gt b 10 2 ≠ 8), ())) ?_).trans ?_
            · by_cases h : gt b 10 2 = 0
              · refine (if_neg (show ¬ ((gt b 10 2 != 0) = true) by simp [h])).trans ?_
                rw [show decide (gt b 10 2 ≠ 0 ∧ gt b 10 2 ≠ 8) = false from decide_eq_false (fun h' => h'.1 h)]
              · refine (if_pos (show (gt b 10 2 != 0) = true by simp [h])).trans ?_
                have : (gt b 10 2 != 8) = decide (gt b 10 2 ≠ 0 ∧ gt b 10 2 ≠ 8) := by simp [h, bne]; rfl
                rw [← this]
            · have hme : (rE b).1.1 = gt b 10 2 := rfl
              have hti : (rE b).1.2.1 = if StOk (unS (gt b 14 2) (gt b 12 2)) then unS (gt b 14 2) (gt b 12 2) else zS := rfl
              by_cases c1 : gt b 10 2 ≠ 0 ∧ gt b 10 2 ≠ 8
              · rw [show chkV n (rE b).1 = 43 by unfold chkV; exact if_pos c1, if_pos rfl]
                exact if_pos (decide_eq_true c1)
              · refine (if_neg (show ¬ (decide (gt b 10 2 ≠ 0 ∧ gt b 10 2 ≠ 8) = true) from fun h => c1 (of_decide_eq_true h))).trans ?_
                by_cases c2 : StOk (unS (gt b 14 2) (gt b 12 2))
                · have hck : chkV n (rE b).1 = nmV n (rE b).1.2.2.2.2.2.1 := by unfold chkV; rw [if_neg (show ¬ ((rE b).1.1 ≠ 0 ∧ (rE b).1.1 ≠ 8) from c1), if_pos (by rw [hti, if_pos c2]; exact c2)]
                  refine (if_neg (show ¬ ((!decide (StOk (unS (gt b 14 2) (gt b 12 2)))) = true) by simp [c2])).trans ?_
                  refine (bindE (rname_is hn ((rE b).1.2.2.2.2.2.1, ()))).trans ?_
                  have h43 : chkV n (rE b).1 ≠ 43 := by
                    have := (check_total (n := n) (by omega) (rE b).1.2.2.2.2.2.1).2
                    rw [hck]; omega
                  rw [if_neg h43, if_neg (not_not_intro c2), hck]
                  by_cases c3 : nmV n (rE b).1.2.2.2.2.2.1 = 0
                  · rw [if_neg (show ¬ (nmV n (rE b).1.2.2.2.2.2.1 ≠ 0) by simp [c3])]
                    refine (if_neg (show ¬ ((nmV n (rE b).1.2.2.2.2.2.1 != 0) = true) by simp [c3])).trans ?_
                    rw [← hE]
                  · rw [if_pos c3]
                    refine (if_pos (show (nmV n (rE b).1.2.2.2.2.2.1 != 0) = true by simp [c3])).trans ?_
                    rfl
                · have hck : chkV n (rE b).1 = 41 := by
                    unfold chkV
                    rw [if_neg (show ¬ ((rE b).1.1 ≠ 0 ∧ (rE b).1.1 ≠ 8) from c1), if_neg (by rw [hti, if_neg c2]; exact zS_no)]
                  rw [hck, if_neg (show ¬ ((41 : Int) = 43) by decide), if_pos c2]
                  exact if_pos (show (!decide (StOk (unS (gt b 14 2) (gt b 12 2)))) = true by simp [c2])
          · rw [pc21 (by omega) (by omega) hF]
            refine (if_pos ?_).trans rfl
            dsimp only
            rw [Int.toNat_natCast, Bool.not_eq_true', decide_eq_false_iff_not]
            exact fun h => hF (hF1.1 h)
    · rw [pc44 (.inr hs)]
      refine (bindE (a := (b, bxOf zR, true, ())) ?_).trans ?_
      · refine (if_neg (by simp; omega)).trans ?_
        refine (bindE (rat_is hn hb hl (i := 0) (k := 4) (by decide) (by omega))).trans ?_
        show some (b, bxOf zR, (gt b 0 4 != 33639248), ()) = _
        rw [show (gt b 0 4 != 33639248) = true by simp [hs]]
      rfl
end
end Go.Proofs.YtcnegcjjeakmmaaDoor.Vm

namespace Go.Proofs.YtcnegcjjeakmmaaDoor.Vm
open Go Go.RowKit
set_option linter.unusedVariables false
set_option linter.unusedSimpArgs false
set_option linter.unusedSectionVars false
set_option maxRecDepth 100000
theorem nr_err {h h' : Rec} {k k' e : Int} (he : e ≠ 0) (hh : ((h, k, e, ()) : Rec × Int × Int × Unit) = (h', k', 0, ())) : False := he (congrArg (fun x => x.2.2.1) hh)
/-- what it means that a record is told -/
theorem pc_told {n : Nat} {b : List Int} (h : (pcV n b).2.2.1 = 0) : 46 ≤ b.length ∧ gt b 0 4 = 33639248 ∧ 46 + gt b 28 2 + gt b 30 2 ≤ b.length ∧ Fm b ∧ StOk (unS (gt b 14 2) (gt b 12 2)) ∧ chkV n (rE b).1 = 0 ∧ pcV n b = (rE b, 46 + gt b 28 2 + gt b 30 2, 0, ()) := by
  by_cases c1 : b.length < 4 ∨ gt b 0 4 ≠ 33639248
  · rw [pc44 c1] at h; exact absurd h (by decide)
  by_cases c2 : b.length < 46 ∨ (b.length : Int) < 46 + gt b 28 2 + gt b 30 2
  · rw [pc20 c1 c2] at h; exact absurd h (by decide)
  by_cases c3 : Fm b
  · have e := pc_ok (n := n) c1 c2 c3
    rw [e] at h
    by_cases c4 : chkV n (rE b).1 = 43
    · rw [if_pos c4] at h; exact absurd h (by decide)
    rw [if_neg c4] at h e
    by_cases c5 : StOk (unS (gt b 14 2) (gt b 12 2))
    · rw [if_neg (not_not_intro c5)] at h e
      by_cases c6 : chkV n (rE b).1 = 0
      · rw [if_neg (not_not_intro c6)] at e
        exact ⟨by omega, Decidable.of_not_not fun h' => c1 (.inr h'), by omega, c3, c5, c6, e⟩
      · rw [if_pos c6] at h; exact absurd h c6
    · rw [if_pos c5] at h; exact absurd h (by decide)
  · rw [pc21 c1 c2 c3] at h; exact absurd h (by decide)
theorem pc_none {n : Nat} {b : List Int} (h : (pcV n b).2.2.1 ≠ 0) : (pcV n b).1 = zR ∧ (pcV n b).2.1 = 0 := by
  by_cases c1 : b.length < 4 ∨ gt b 0 4 ≠ 33639248
  · rw [pc44 c1]; exact ⟨rfl, rfl⟩
  by_cases c2 : b.length < 46 ∨ (b.length : Int) < 46 + gt b 28 2 + gt b 30 2
  · rw [pc20 c1 c2]; exact ⟨rfl, rfl⟩
  by_cases c3 : Fm b
  · rw [pc_ok c1 c2 c3] at h ⊢
    split
    · exact ⟨rfl, rfl⟩
    · split
      · exact ⟨rfl, rfl⟩
      · split
        · exact ⟨rfl, rfl⟩
        · rename_i h1 h2 h3
          rw [if_neg h1, if_neg h2, if_neg h3] at h
          exact absurd rfl h
  · rw [pc21 c1 c2 c3]; exact ⟨rfl, rfl⟩
/-- What is parsed, and written, is these bytes again. -/
theorem pc_write {n : Nat} {b : List Int} (hb : By b) (h : (pcV n b).2.2.1 = 0) : chkV n (pcV n b).1.1 = 0 ∧ RcOk (pcV n b).1 ∧ 0 ≤ (pcV n b).2.1 ∧ (pcV n b).2.1 ≤ b.length ∧ wC (pcV n b).1 = b.take (pcV n b).2.1.toNat := by
  obtain ⟨h1, h2, h3, h4, h5, h6, h7⟩ := pc_told h
  have r1 := gt2 hb 28
  have r2 := gt2 hb 30
  rw [h7]
  refine ⟨h6, rE_ok hb, by show (0 : Int) ≤ 46 + gt b 28 2 + gt b 30 2; omega, h3, ?_⟩
  have hf := (form_iff hb h3 (rE b) (rE_ok hb) rfl rfl).2 h4
  obtain ⟨u1, u2⟩ := un_nums (gt2 hb 14).1 (gt2 hb 14).2 (gt2 hb 12).1 (gt2 hb 12).2
  have hT : (rE b).1.2.1 = unS (gt b 14 2) (gt b 12 2) := if_pos h5
  show cB (rE b) (gt b 10 2) (timeN (rE b).1.2.1) (dateN (rE b).1.2.1) = _
  rw [hT, u1, u2, hf]
  show _ = b.take (46 + gt b 28 2 + gt b 30 2).toNat
  rw [show (46 + gt b 28 2 + gt b 30 2).toNat = 46 + (gt b 28 2).toNat + (gt b 30 2).toNat by omega]
section
variable {n : Nat} (c : Rec) (hk : RcOk c) (hc : chkV n c.1 = 0) (R : List Int)
include hk hc
theorem wr_fields : Hd (wC c ++ R) c ∧ gt (wC c ++ R) 10 2 = c.1.1 ∧ gt (wC c ++ R) 12 2 = timeN c.1.2.1 ∧ gt (wC c ++ R) 14 2 = dateN c.1.2.1 ∧ gt (wC c ++ R) 16 4 = c.1.2.2.1 ∧ gt (wC c ++ R) 28 2 = (c.1.2.2.2.2.2.1.size : Int) := by
  obtain ⟨h1, h2, h3, h4, h5⟩ := chk_zero hc
  obtain ⟨p1, p2, p3, p4, p5⟩ := h2.nums
  have q1 := mn_range (M := 4294967295) (by decide) hk.hd.pk.1
  have q2 := mn_range (M := 4294967295) (by decide) hk.hd.sz.1
  have q3 := mn_range (M := 65535) (by decide) hk.dk.1
  have q4 := mn_range (M := 4294967295) (by decide) hk.os.1
  have hel := exB_len c
  have h28 := exN_le c
  have h32 : (exB c).length ≤ 32 := by rw [hel]; split <;> omega
  have hv : (0 : Int) ≤ (if exN c = 0 then 20 else 45) ∧ (if exN c = 0 then (20 : Int) else 45) < 256 ^ 2 := by split <;> decide
  have e2 : (256 : Int) ^ 2 = 65536 := rfl
  have e4 : (256 : Int) ^ 4 = 4294967296 := rfl
  obtain ⟨T, hT⟩ : ∃ T, T = timeN c.1.2.1 := ⟨_, rfl⟩
  obtain ⟨D, hD⟩ : ∃ D, D = dateN c.1.2.1 := ⟨_, rfl⟩
  obtain ⟨V, hV⟩ : ∃ V : Int, V = if exN c = 0 then 20 else 45 := ⟨_, rfl⟩
  obtain ⟨S, hS⟩ : ∃ S, S = sbytes c.1.2.2.2.2.2.1 ++ exB c ++ R := ⟨_, rfl⟩
  have e : wC c ++ R = les [(4, 33639248), (2, 45), (2, V), (2, 2048), (2, c.1.1), (2, T), (2, D), (4, c.1.2.2.1), (4, mn 4294967295 c.1.2.2.2.1), (4, mn 4294967295 c.1.2.2.2.2.1), (2, (c.1.2.2.2.2.2.1.size : Int)), (2, ((exB c).length : Int)), (2, 0), (2, mn 65535 c.2.1), (2, 0), (4, 0), (4, mn 4294967295 c.2.2.1)] ++ S := by
    unfold wC cB
    rw [hS, hT, hD, hV, List.append_assoc]
    rfl
  rw [← hV] at hv
  rw [← hT] at p3 p4
  rw [← hD] at p1 p2
  rw [e, ← hT, ← hD]
  refine ⟨⟨?_, ?_, ?_, ?_, ?_, ?_, ?_, ?_, ?_, ?_, ?_, ?_⟩, ?_, ?_, ?_, ?_, ?_⟩
  · exact gt_field (pre := []) rfl rfl (by decide) (by decide)
  · exact gt_field (pre := [(4, 33639248)]) rfl rfl (by decide) (by decide)
  · rw [← hV]; exact gt_field (pre := [(4, 33639248), (2, 45)]) rfl rfl hv.1 hv.2
  · exact gt_field (pre := [(4, 33639248), (2, 45), (2, V)]) rfl rfl (by decide) (by decide)
  · exact gt_field (pre := [(4, 33639248), (2, 45), (2, V), (2, 2048), (2, c.1.1), (2, T), (2, D), (4, c.1.2.2.1)]) rfl rfl (by omega) (by omega)
  · exact gt_field (pre := [(4, 33639248), (2, 45), (2, V), (2, 2048), (2, c.1.1), (2, T), (2, D), (4, c.1.2.2.1), (4, mn 4294967295 c.1.2.2.2.1)]) rfl rfl (by omega) (by omega)
  · exact gt_field (pre := [(4, 33639248), (2, 45), (2, V), (2, 2048), (2, c.1.1), (2, T), (2, D), (4, c.1.2.2.1), (4, mn 4294967295 c.1.2.2.2.1), (4, mn 4294967295 c.1.2.2.2.2.1), (2, (c.1.2.2.2.2.2.1.size : Int))]) rfl rfl (by omega) (by omega)
  · exact gt_field (pre := [(4, 33639248), (2, 45), (2, V), (2, 2048), (2, c.1.1), (2, T), (2, D), (4, c.1.2.2.1), (4, mn 4294967295 c.1.2.2.2.1), (4, mn 4294967295 c.1.2.2.2.2.1), (2, (c.1.2.2.2.2.2.1.size : Int)), (2, ((exB c).length : Int))]) rfl rfl (by decide) (by decide)
  · exact gt_field (pre := [(4, 33639248), (2, 45), (2, V), (2, 2048), (2, c.1.1), (2, T), (2, D), (4, c.1.2.2.1), (4, mn 4294967295 c.1.2.2.2.1), (4, mn 4294967295 c.1.2.2.2.2.1), (2, (c.1.2.2.2.2.2.1.size : Int)), (2, ((exB c).length : Int)), (2, 0)]) rfl rfl (by omega) (by omega)
  · exact gt_field (pre := [(4, 33639248), (2, 45), (2, V), (2, 2048), (2, c.1.1), (2, T), (2, D), (4, c.1.2.2.1), (4, mn 4294967295 c.1.2.2.2.1), (4, mn 4294967295 c.1.2.2.2.2.1), (2, (c.1.2.2.2.2.2.1.size : Int)), (2, ((exB c).length : Int)), (2, 0), (2, mn 65535 c.2.1)]) rfl rfl (by decide) (by decide)
  · exact gt_field (pre := [(4, 33639248), (2, 45), (2, V), (2, 2048), (2, c.1.1), (2, T), (2, D), (4, c.1.2.2.1), (4, mn 4294967295 c.1.2.2.2.1), (4, mn 4294967295 c.1.2.2.2.2.1), (2, (c.1.2.2.2.2.2.1.size : Int)), (2, ((exB c).length : Int)), (2, 0), (2, mn 65535 c.2.1), (2, 0)]) rfl rfl (by decide) (by decide)
  · exact gt_field (pre := [(4, 33639248), (2, 45), (2, V), (2, 2048), (2, c.1.1), (2, T), (2, D), (4, c.1.2.2.1), (4, mn 4294967295 c.1.2.2.2.1), (4, mn 4294967295 c.1.2.2.2.2.1), (2, (c.1.2.2.2.2.2.1.size : Int)), (2, ((exB c).length : Int)), (2, 0), (2, mn 65535 c.2.1), (2, 0), (4, 0)]) rfl rfl (by omega) (by omega)
  · exact gt_field (pre := [(4, 33639248), (2, 45), (2, V), (2, 2048)]) rfl rfl (by omega) (by omega)
  · exact gt_field (pre := [(4, 33639248), (2, 45), (2, V), (2, 2048), (2, c.1.1)]) rfl rfl (by omega) (by omega)
  · exact gt_field (pre := [(4, 33639248), (2, 45), (2, V), (2, 2048), (2, c.1.1), (2, T)]) rfl rfl (by omega) (by omega)
  · exact gt_field (pre := [(4, 33639248), (2, 45), (2, V), (2, 2048), (2, c.1.1), (2, T), (2, D)]) rfl rfl hk.hd.sum.1 hk.hd.sum.2
  · exact gt_field (pre := [(4, 33639248), (2, 45), (2, V), (2, 2048), (2, c.1.1), (2, T), (2, D), (4, c.1.2.2.1), (4, mn 4294967295 c.1.2.2.2.1), (4, mn 4294967295 c.1.2.2.2.2.1)]) rfl rfl (by omega) (by omega)
/-- What is written is parsed as it, whatever stands behind. -/
theorem pc_back : pcV n (wC c ++ R) = (c, ((wC c).length : Int), 0, ()) := by
  obtain ⟨h1, h2, h3, h4, h5⟩ := chk_zero hc
  obtain ⟨p1, p2, p3, p4, p5⟩ := h2.nums
  obtain ⟨hH, g10, g12, g14, g16, g28⟩ := wr_fields c hk hc R
  obtain ⟨b, hb⟩ : ∃ b, b = wC c ++ R := ⟨_, rfl⟩
  have hlen := cB_len c c.1.1 (timeN c.1.2.1) (dateN c.1.2.1)
  have hlb : b.length = (wC c).length + R.length := by rw [hb, List.length_append]
  have hlw : (wC c).length = 46 + c.1.2.2.2.2.2.1.size + (exB c).length := hlen
  have g30 := hH.h30
  have hn : cNm (wC c ++ R) = sbytes c.1.2.2.2.2.2.1 := by
    unfold cNm
    rw [g28, Int.toNat_natCast]
    show ((les (cN c c.1.1 (timeN c.1.2.1) (dateN c.1.2.1)) ++ (sbytes c.1.2.2.2.2.2.1 ++ exB c) ++ R).drop 46).take _ = _
    rw [List.append_assoc, List.drop_left' (cN_len ..), List.append_assoc, List.take_left' (sbytes_len _)]
  have he : cEx (wC c ++ R) = exB c := by
    unfold cEx
    rw [g28, g30, Int.toNat_natCast, Int.toNat_natCast]
    show ((les (cN c c.1.1 (timeN c.1.2.1) (dateN c.1.2.1)) ++ (sbytes c.1.2.2.2.2.2.1 ++ exB c) ++ R).drop _).take _ = _
    rw [show les (cN c c.1.1 (timeN c.1.2.1) (dateN c.1.2.1)) ++ (sbytes c.1.2.2.2.2.2.1 ++ exB c) ++ R = (les (cN c c.1.1 (timeN c.1.2.1) (dateN c.1.2.1)) ++ sbytes c.1.2.2.2.2.2.1) ++ (exB c ++ R) by simp only [List.append_assoc]]
    rw [List.drop_left' (by rw [List.length_append, cN_len, sbytes_len]), List.take_left' rfl]
  rw [← hb] at hH g10 g12 g14 g16 g28 g30 hn he ⊢
  have e1 := hH.h24
  have e2 := hH.h20
  have e3 := hH.h42
  have e4 := hH.h34
  unfold mn at e1 e2 e3 e4
  have b4 : a4 b = a3 b + if gt b 34 2 = 65535 then 4 else 0 := rfl
  have b3 : a3 b = a2 b + if gt b 42 4 = 4294967295 then 8 else 0 := rfl
  have b2 : a2 b = a1 b + if gt b 20 4 = 4294967295 then 8 else 0 := rfl
  have b1 : a1 b = if gt b 24 4 = 4294967295 then 8 else 0 := rfl
  have j1 : 4294967295 ≤ c.1.2.2.2.2.1 ↔ gt b 24 4 = 4294967295 := by rw [e1]; split <;> omega
  have j2 : 4294967295 ≤ c.1.2.2.2.1 ↔ gt b 20 4 = 4294967295 := by rw [e2]; split <;> omega
  have j3 : 4294967295 ≤ c.2.2.1 ↔ gt b 42 4 = 4294967295 := by rw [e3]; split <;> omega
  have j4 : 65535 ≤ c.2.1 ↔ gt b 34 2 = 65535 := by rw [e4]; split <;> omega
  have l1 : (les (fit1 8 4294967295 c.1.2.2.2.2.1)).length = a1 b := by rw [fit1_n, b1]; simp only [j1]
  have l2 : (les (fit1 8 4294967295 c.1.2.2.2.1)).length = if gt b 20 4 = 4294967295 then 8 else 0 := by rw [fit1_n]; simp only [j2]
  have l3 : (les (fit1 8 4294967295 c.2.2.1)).length = if gt b 42 4 = 4294967295 then 8 else 0 := by rw [fit1_n]; simp only [j3]
  have hN := hH.n
  have ee : a4 b ≠ 0 → cEx b = les ((2, 1) :: (2, (a4 b : Int)) :: exL c) ++ [] := fun h0 => by
    rw [he, List.append_nil]
    unfold exB
    rw [hN, if_neg h0]
  have m2 : a1 b ≤ a2 b := by rw [b2]; omega
  have m3 : a2 b ≤ a3 b := by rw [b3]; omega
  have m4 : a3 b ≤ a4 b := by rw [b4]; omega
  have hs : sV b = c.1.2.2.2.2.1 := by
    unfold sV
    by_cases h : gt b 24 4 = 4294967295
    · have c1 : a1 b = 8 := by rw [b1, if_pos h]
      rw [if_pos h, ee (by omega)]
      refine gt_field (pre := [(2, 1), (2, (a4 b : Int))]) (post := fit1 8 4294967295 c.1.2.2.2.1 ++ (fit1 8 4294967295 c.2.2.1 ++ fit1 4 65535 c.2.1)) ?_ rfl hk.hd.sz.1 hk.hd.sz.2
      unfold exL
      rw [show fit1 8 4294967295 c.1.2.2.2.2.1 = [(8, c.1.2.2.2.2.1)] from if_pos (j1.2 h)]
      rfl
    · rw [if_neg h, e1, if_neg]
      omega
  have hp : pV b = c.1.2.2.2.1 := by
    unfold pV
    by_cases h : gt b 20 4 = 4294967295
    · have c1 : a2 b = a1 b + 8 := by rw [b2, if_pos h]
      rw [if_pos h, ee (by omega)]
      refine gt_field (pre := [(2, 1), (2, (a4 b : Int))] ++ fit1 8 4294967295 c.1.2.2.2.2.1) (post := fit1 8 4294967295 c.2.2.1 ++ fit1 4 65535 c.2.1) ?_ ?_ hk.hd.pk.1 hk.hd.pk.2
      · unfold exL
        rw [show fit1 8 4294967295 c.1.2.2.2.1 = [(8, c.1.2.2.2.1)] from if_pos (j2.2 h)]
        simp
      · rw [les_append, List.length_append, l1]; rfl
    · rw [if_neg h, e2, if_neg]
      omega
  have ho : oV b = c.2.2.1 := by
    unfold oV
    by_cases h : gt b 42 4 = 4294967295
    · have c1 : a3 b = a2 b + 8 := by rw [b3, if_pos h]
      rw [if_pos h, ee (by omega)]
      refine gt_field (pre := [(2, 1), (2, (a4 b : Int))] ++ (fit1 8 4294967295 c.1.2.2.2.2.1 ++ fit1 8 4294967295 c.1.2.2.2.1)) (post := fit1 4 65535 c.2.1) ?_ ?_ hk.os.1 hk.os.2
      · unfold exL
        rw [show fit1 8 4294967295 c.2.2.1 = [(8, c.2.2.1)] from if_pos (j3.2 h)]
        simp
      · rw [les_append, les_append, List.length_append, List.length_append, l1, l2, b2]; rfl
    · rw [if_neg h, e3, if_neg]
      omega
  have hd : dV b = c.2.1 := by
    unfold dV
    by_cases h : gt b 34 2 = 65535
    · have c1 : a4 b = a3 b + 4 := by rw [b4, if_pos h]
      rw [if_pos h, ee (by omega)]
      refine gt_field (pre := [(2, 1), (2, (a4 b : Int))] ++ (fit1 8 4294967295 c.1.2.2.2.2.1 ++ (fit1 8 4294967295 c.1.2.2.2.1 ++ fit1 8 4294967295 c.2.2.1))) (post := []) ?_ ?_ hk.dk.1 hk.dk.2
      · unfold exL
        rw [show fit1 4 65535 c.2.1 = [(4, c.2.1)] from if_pos (j4.2 h)]
        simp
      · rw [les_append, les_append, les_append, List.length_append, List.length_append, List.length_append, l1, l2, l3, b3, b2, Nat.add_assoc]; rfl
    · rw [if_neg h, e4, if_neg]
      omega
  have hu : unS (gt b 14 2) (gt b 12 2) = c.1.2.1 := by rw [g14, g12]; exact p5
  have hr : rE b = c := by
    unfold rE rcV
    rw [hu, if_pos h2, g10, g16, hs, hp, ho, hd, hn, str_bytes]
  have hF : Fm b := by
    unfold Fm
    rw [hr]
    exact ⟨hH, he.symm⟩
  rw [pc_ok (by rw [hH.h0]; omega) (by rw [g28, g30]; omega) hF, hr, hu, if_neg (by rw [hc]; decide), if_neg (not_not_intro h2), if_neg (not_not_intro hc), g28, g30, hlw]
  rw [show (46 : Int) + (c.1.2.2.2.2.2.1.size : Int) + ((exB c).length : Int) = ((46 + c.1.2.2.2.2.2.1.size + (exB c).length : Nat) : Int) by omega]
/-- Fewer bytes are no record. -/
theorem pc_cut (k : Nat) (hkl : k < (wC c).length) : (pcV n ((wC c).take k)).2.2.1 = 20 ∨ (k < 4 ∧ (pcV n ((wC c).take k)).2.2.1 = 44) := by
  obtain ⟨hH, g10, g12, g14, g16, g28⟩ := wr_fields c hk hc []
  rw [List.append_nil] at hH g28
  have hl : ((wC c).take k).length = k := by rw [List.length_take]; omega
  have hlw : (wC c).length = 46 + c.1.2.2.2.2.2.1.size + (exB c).length := cB_len c c.1.1 (timeN c.1.2.1) (dateN c.1.2.1)
  by_cases h4 : k < 4
  · exact .inr ⟨h4, by rw [pc44 (.inl (by omega))]⟩
  · refine .inl ?_
    have e0 : gt ((wC c).take k) 0 4 = 33639248 := by rw [gt_take _ _ _ _ (by omega)]; exact hH.h0
    by_cases h46 : k < 46
    · rw [pc20 (by omega) (.inl (by omega))]
    · rw [pc20 (by omega) (.inr (by rw [gt_take _ _ _ _ (by omega), gt_take _ _ _ _ (by omega), g28, hH.h30]; omega))]
end
end Go.Proofs.YtcnegcjjeakmmaaDoor.Vm

namespace Go.Proofs.YtcnegcjjeakmmaaDoor.Vm
open Go Go.RowKit
set_option linter.unusedVariables false
set_option linter.unusedSimpArgs false
set_option linter.unusedSectionVars false
set_option maxRecDepth 100000
@[reducible] def RK : Ki := .pair (.pair (.int .i64) (.pair (.pair (.int .i64) (.pair (.int .i64) (.pair (.int .i64) (.pair (.int .i64) (.pair (.int .i64) (.pair (.int .i64) .unit)))))) (.pair (.int .u32) (.pair (.int .u64) (.pair (.int .u64) (.pair .str .unit)))))) (.pair (.int .u32) (.pair (.int .u64) .unit))
theorem RK_iff (x y : Rec) : Ki.eqB RK x y = true ↔ x = y := eqB_iff (k := RK) rfl x y
theorem rc_of {c : Rec} (hh : KWf RK c) : RcOk c := ⟨⟨wf_u32 hh.1.2.2.1, wf_u64 hh.1.2.2.2.1, wf_u64 hh.1.2.2.2.2.1⟩, wf_u32 hh.2.1, wf_u64 hh.2.2.1⟩
theorem centralParses (b : List Int) (hb : By b) : law19_CentralParses.f 1000 (b, ()) = some (true, ()) := by
  rw [law19_CentralParses.eq, alive19, Option.bind_some, if_neg (show ¬ ((!true) = true) by decide)]
  by_cases h1 : b.length > 400
  · rw [if_pos (decide_eq_true (by omega))]
  rw [if_neg (by simp; omega), cparse_is (by decide) (by decide) nm_x hb (by omega), Option.bind_some, rcparse_is (by decide) (by decide) hb (by omega) (by omega), Option.bind_some, if_pos (by simp), if_pos (by simp), law19_as.eq, Option.bind_some]
  exact congrArg (fun c => some (c, ())) ((RK_iff _ _).2 rfl)
theorem cback_tail {b : List Int} (hb : By b) (hl : b.length ≤ 400) : (central_Parse.f 1000 (b, ())).bind (fun y25 => (if (y25.2.2.1 != (0 : Int)) = true then (if (y25.2.1 == (0 : Int)) = true then (some ((Ki.eqB (.pair (.pair (.int .i64) (.pair (.pair (.int .i64) (.pair (.int .i64) (.pair (.int .i64) (.pair (.int .i64) (.pair (.int .i64) (.pair (.int .i64) .unit)))))) (.pair (.int .u32) (.pair (.int .u64) (.pair (.int .u64) (.pair .str .unit)))))) (.pair (.int .u32) (.pair (.int .u64) .unit))) y25.1 (((0 : Int), (((0 : Int), ((0 : Int), ((0 : Int), ((0 : Int), ((0 : Int), ((0 : Int), ())))))), ((0 : Int), ((0 : Int), ((0 : Int), (ByteArray.empty, ())))))), ((0 : Int), ((0 : Int), ())))), ())) else (some (false, ()))) else (central_Write.f 1000 (y25.1, ())).bind (fun y26 => (if (y26.2.1 == (0 : Int)) = true then (if (decide (y25.2.1 ≤ ((List.length b : Nat) : Int))) = true then (if 0 ≤ y25.2.1 then (if y25.2.1 ≤ (((List.length b) : Nat) : Int) then (ref01_Same.f 1000 (y26.1, (List.drop 0 (List.take (Int.toNat y25.2.1) b)), ())).bind (fun y27 => (some (y27.1, ()))) else none) else none) else (some (false, ()))) else (some (false, ())))))) = some (true, ()) := by
  rw [cparse_is (by decide) (by decide) nm_x hb (by omega), Option.bind_some]
  by_cases he : (pcV 1000 b).2.2.1 = 0
  · obtain ⟨c1, c2, c3, c4, c5⟩ := pc_write hb he
    obtain ⟨⟨c, k, e, u⟩, hp⟩ : ∃ q, q = pcV 1000 b := ⟨_, rfl⟩
    rw [← hp] at he c1 c2 c3 c4 c5 ⊢
    obtain rfl : e = 0 := he
    have c5 : wC c = b.take k.toNat := c5
    have hw : (wC c).length ≤ 400 := by rw [c5, List.length_take]; omega
    rw [if_neg (show ¬ (((0 : Int) != 0) = true) by decide)]
    rw [cwrite_is (by decide) (by decide) c c2, Option.bind_some, if_pos c1, if_pos (show ((0 : Int) == 0) = true from rfl), if_pos (decide_eq_true c4), if_pos c3, if_pos c4]
    rw [same_is (by show (wC c).length < 1000; omega) (by decide), Option.bind_some, List.drop_zero, c5]
    simp
  · obtain ⟨h1, h2⟩ := pc_none he
    rw [if_pos (by simp [he]), h2, if_pos (show ((0 : Int) == 0) = true from rfl), h1]
    exact congrArg (fun c => some (c, ())) ((RK_iff zR zR).2 rfl)
theorem centralBack (h : Rec) (hk : RcOk h) (more b : List Int) (cut : Int) (hm : By more) (hb : By b) : law19_CentralBack.f 1000 (h, more, b, cut, ()) = some (true, ()) := by
  rw [law19_CentralBack.eq, alive19, Option.bind_some, if_neg (show ¬ ((!true) = true) by decide)]
  by_cases h1 : h.1.2.2.2.2.2.1.size > 300
  · rw [if_pos (decide_eq_true (by omega))]
  rw [if_neg (by simp; omega)]
  by_cases h2 : more.length > 400
  · rw [if_pos (decide_eq_true (by omega))]
  rw [if_neg (by simp; omega)]
  by_cases h3 : b.length > 400
  · rw [if_pos (decide_eq_true (by omega))]
  rw [if_neg (by simp; omega), cwrite_is (by decide) (by decide) h hk, Option.bind_some]
  by_cases hc : chkV 1000 h.1 = 0
  · have hlen : (wC h).length = 46 + h.1.2.2.2.2.2.1.size + (exB h).length := cB_len h h.1.1 (timeN h.1.2.1) (dateN h.1.2.1)
    have hel := exB_len h
    have h28 := exN_le h
    have h32 : (exB h).length ≤ 32 := by rw [hel]; split <;> omega
    have hwb : By (wC h) := cB_by h h.1.1 (timeN h.1.2.1) (dateN h.1.2.1)
    rw [if_pos hc, if_pos (show ((0 : Int) == 0) = true from rfl)]
    rw [copy_is 1000 (show (wC h).length ≤ 4294967296 by omega), Option.bind_some, if_pos (lim_of (show (((wC h).length : Nat) : Int) + (more.length : Int) ≤ 4294967296 by omega))]
    rw [cparse_is (n := 1000) (by decide) (by decide) nm_x (hwb.append hm) (by rw [List.length_append]; omega), Option.bind_some, pc_back h hk hc more]
    rw [if_neg (show ¬ (((0 : Int) != 0) = true) by decide), if_neg (by simp)]
    rw [if_neg (by rw [show Ki.eqB RK h h = true from (RK_iff h h).2 rfl]; decide)]
    have hb1 := band1023 cut
    have hL : (0 : Int) < ((wC h).length : Int) := by omega
    obtain ⟨c, hcv⟩ : ∃ c : Nat, Int.tmod (band IntKind.i64 cut (1023 : Int)) (((wC h).length : Nat) : Int) = (c : Int) ∧ c < (wC h).length := by
      rw [Int.tmod_eq_emod_of_nonneg hb1.1]
      refine ⟨(band IntKind.i64 cut 1023 % ((wC h).length : Int)).toNat, ?_, ?_⟩
      · have := Int.emod_nonneg (band IntKind.i64 cut 1023) (show ((wC h).length : Int) ≠ 0 by omega); omega
      · have := Int.emod_lt_of_pos (band IntKind.i64 cut 1023) hL
        have := Int.emod_nonneg (band IntKind.i64 cut 1023) (show ((wC h).length : Int) ≠ 0 by omega); omega
    dsimp only
    rw [if_neg (show ¬ (((wC h).length : Nat) : Int) = 0 by omega), hcv.1, if_pos (by omega), if_pos (by omega), Int.toNat_natCast, List.drop_zero]
    rw [cparse_is (n := 1000) (by decide) (by decide) nm_x (hwb.take c) (by rw [List.length_take]; omega), Option.bind_some]
    have ht := cback_tail hb (by omega)
    rcases pc_cut (n := 1000) h hk hc c hcv.2 with g | ⟨g1, g2⟩
    · rw [g, if_neg (show ¬ (((20 : Int) != 20) = true) by decide)]
      exact ht
    · rw [g2, if_pos (show ((44 : Int) != 20) = true from rfl), if_neg (by simp; omega), if_neg (show ¬ (((44 : Int) != 44) = true) by decide)]
      exact ht
  · rw [if_neg hc]
    rw [if_neg (by simp [hc])]
    exact cback_tail hb (by omega)
theorem centralRows (a b : Rec) (ha : RcOk a) (hb : RcOk b) : law19_CentralRows.f 1000 (a, b, ()) = some (true, ()) := by
  rw [law19_CentralRows.eq, alive19, Option.bind_some, if_neg (show ¬ ((!true) = true) by decide)]
  by_cases h1 : a.1.2.2.2.2.2.1.size > 300
  · rw [if_pos (decide_eq_true (by omega))]
  rw [if_neg (by simp; omega)]
  by_cases h2 : b.1.2.2.2.2.2.1.size > 300
  · rw [if_pos (decide_eq_true (by omega))]
  rw [if_neg (by simp; omega), cwrite_is (by decide) (by decide) a ha, Option.bind_some, cwrite_is (by decide) (by decide) b hb, Option.bind_some]
  by_cases ca : chkV 1000 a.1 = 0
  · rw [if_pos ca, if_neg (show ¬ (((0 : Int) != 0) = true) by decide)]
    by_cases cb : chkV 1000 b.1 = 0
    · have la : (wC a).length = 46 + a.1.2.2.2.2.2.1.size + (exB a).length := cB_len a a.1.1 (timeN a.1.2.1) (dateN a.1.2.1)
      have lb : (wC b).length = 46 + b.1.2.2.2.2.2.1.size + (exB b).length := cB_len b b.1.1 (timeN b.1.2.1) (dateN b.1.2.1)
      have ela := exB_len a
      have elb := exB_len b
      have xa := exN_le a
      have xb := exN_le b
      have ya : (exB a).length ≤ 32 := by rw [ela]; split <;> omega
      have yb : (exB b).length ≤ 32 := by rw [elb]; split <;> omega
      have wa : (wC a).length ≤ 400 := by omega
      have wb : (wC b).length ≤ 400 := by omega
      have ba : By (wC a) := cB_by a a.1.1 (timeN a.1.2.1) (dateN a.1.2.1)
      have bb : By (wC b) := cB_by b b.1.1 (timeN b.1.2.1) (dateN b.1.2.1)
      rw [if_pos cb, if_neg (show ¬ (((0 : Int) != 0) = true) by decide)]
      rw [copy_is 1000 (show (wC a).length ≤ 4294967296 by omega), Option.bind_some, if_pos (lim_of (show (((wC a).length : Nat) : Int) + ((wC b).length : Int) ≤ 4294967296 by omega))]
      rw [cparse_is (n := 1000) (by decide) (by decide) nm_x (ba.append bb) (by rw [List.length_append]; omega), Option.bind_some, pc_back a ha ca (wC b)]
      rw [if_neg (show ¬ (((0 : Int) != 0) = true) by decide), if_neg (by simp)]
      rw [if_neg (by rw [show Ki.eqB RK a a = true from (RK_iff a a).2 rfl]; decide)]
      dsimp only
      rw [if_pos (show (0 : Int) ≤ (((wC a).length : Nat) : Int) by omega), if_pos (show (((wC a).length : Nat) : Int) ≤ ((((wC a) ++ (wC b)).length : Nat) : Int) by rw [List.length_append]; omega), Int.toNat_natCast, List.take_length, List.drop_left]
      rw [cparse_is (n := 1000) (by decide) (by decide) nm_x bb (by omega), Option.bind_some]
      have hpb := pc_back b hb cb []
      rw [List.append_nil] at hpb
      have hsame : (wC a = wC b) ↔ a = b := by
        refine ⟨fun h => ?_, fun h => by rw [h]⟩
        have hpa := pc_back a ha ca []
        rw [List.append_nil, h, hpb] at hpa
        exact (congrArg (fun x => x.1) hpa).symm
      have hE : (decide (wC a = wC b) == Ki.eqB RK a b) = true := by
        by_cases hab : a = b
        · rw [decide_eq_true (hsame.2 hab), (RK_iff a b).2 hab]; rfl
        · have e1 : Ki.eqB RK a b = false := by
            cases hc : Ki.eqB RK a b with
            | false => rfl
            | true => exact absurd ((RK_iff a b).1 hc) hab
          rw [decide_eq_false (fun h => hab (hsame.1 h)), e1]; rfl
      rw [hpb]
      have hsm := same_is (n := 1000) (a := wC a) (b := wC b) (by omega) (by decide)
      by_cases d1 : a.1.2.2.2.1 < 4294967295
      · rw [if_pos (decide_eq_true d1)]
        by_cases d2 : a.1.2.2.2.2.1 < 4294967295
        · rw [if_pos (decide_eq_true d2)]
          by_cases d3 : a.2.2.1 < 4294967295
          · rw [if_pos (decide_eq_true d3), if_pos (show ((0 : Int) == 0) = true from rfl), if_pos (by simp), if_pos ((RK_iff b b).2 rfl), hsm, Option.bind_some, if_pos hE]
            by_cases d4 : a.2.1 < 65535
            · rw [if_neg (by simp [d4]), lsize_is 1000 a.1 (by omega), Option.bind_some]
              have hg : ¬ grt a.1 := by unfold grt; omega
              have hx : exN a = 0 := by
                unfold exN exL
                rw [les_append, les_append, les_append, List.length_append, List.length_append, List.length_append, fit1_n, fit1_n, fit1_n, fit1_n, if_neg (by omega), if_neg (by omega), if_neg (by omega), if_neg (by omega)]
              rw [if_neg hg, wr64 (by omega) (by omega), show ((((wC a).length : Nat) : Int) == 30 + (a.1.2.2.2.2.2.1.size : Int) + 0 + 16) = true by rw [beq_iff_eq, la, ela, if_pos hx]; omega]
            · rw [if_pos (by simp [d4])]
          · rw [if_neg (by simpa using d3), if_pos (show ((0 : Int) == 0) = true from rfl), if_pos (by simp), if_pos ((RK_iff b b).2 rfl), hsm, Option.bind_some, if_pos hE]
        · rw [if_neg (by simpa using d2), if_pos (show ((0 : Int) == 0) = true from rfl), if_pos (by simp), if_pos ((RK_iff b b).2 rfl), hsm, Option.bind_some, if_pos hE]
      · rw [if_neg (by simpa using d1), if_pos (show ((0 : Int) == 0) = true from rfl), if_pos (by simp), if_pos ((RK_iff b b).2 rfl), hsm, Option.bind_some, if_pos hE]
    · rw [if_neg cb, if_pos (by simp [cb])]
  · rw [if_neg ca, if_pos (by simp [ca])]
theorem get2 {b : List Int} (hb : By b) {i : Nat} (h : i + 2 ≤ b.length) : gt b i 2 = b.getD i 0 + 256 * b.getD (i + 1) 0 := by
  have h1 := gt2 hb i
  have h2 := ge_le 2 (x := gt b i 2) h1.1 h1.2
  rw [le2_at hb h] at h2
  rw [← h2]
  show b.getD i 0 + 256 * (b.getD (i + 1) 0 + 256 * 0) = _
  omega
theorem csizes_tail (c : Rec) (hk : RcOk c) (hs : c.1.2.2.2.2.2.1.size ≤ 300) (T M : Int) (hM : M = ((exB c).length : Int)) (hT : T = 46 + (c.1.2.2.2.2.2.1.size : Int) + M) : (central_Write.f 1000 (c, ())).bind (fun y33 => (central_Size.f 1000 (c, ())).bind (fun y34 => (if (y34.1 == T) = true then (if (y33.2.1 != (0 : Int)) = true then (if (((List.length y33.1 : Nat) : Int) == (0 : Int)) = true then (some (true, ())) else (if (y33.2.1 == (0 : Int)) = true then (central_Size.f 1000 (c, ())).bind (fun y35 => (if (((List.length y33.1 : Nat) : Int) == y35.1) = true then (if 0 ≤ (30 : Int) then (if (30 : Int) < ((List.length y33.1 : Nat) : Int) then (if ((wr IntKind.i64 (List.getD y33.1 (Int.toNat (30 : Int)) (0 : Int))) == M) = true then (if 0 ≤ (28 : Int) then (if (28 : Int) < ((List.length y33.1 : Nat) : Int) then (if 0 ≤ (29 : Int) then (if (29 : Int) < ((List.length y33.1 : Nat) : Int) then (some (((wr IntKind.i64 ((wr IntKind.i64 (List.getD y33.1 (Int.toNat (28 : Int)) (0 : Int))) + (wr IntKind.i64 ((256 : Int) * (wr IntKind.i64 (List.getD y33.1 (Int.toNat (29 : Int)) (0 : Int))))))) == ((ByteArray.size c.1.2.2.2.2.2.1 : Nat) : Int)), ())) else none) else none) else none) else none) else (some (false, ()))) else none) else none) else (some (false, ())))) else (some (false, ())))) else (if (y33.2.1 == (0 : Int)) = true then (central_Size.f 1000 (c, ())).bind (fun y36 => (if (((List.length y33.1 : Nat) : Int) == y36.1) = true then (if 0 ≤ (30 : Int) then (if (30 : Int) < ((List.length y33.1 : Nat) : Int) then (if ((wr IntKind.i64 (List.getD y33.1 (Int.toNat (30 : Int)) (0 : Int))) == M) = true then (if 0 ≤ (28 : Int) then (if (28 : Int) < ((List.length y33.1 : Nat) : Int) then (if 0 ≤ (29 : Int) then (if (29 : Int) < ((List.length y33.1 : Nat) : Int) then (some (((wr IntKind.i64 ((wr IntKind.i64 (List.getD y33.1 (Int.toNat (28 : Int)) (0 : Int))) + (wr IntKind.i64 ((256 : Int) * (wr IntKind.i64 (List.getD y33.1 (Int.toNat (29 : Int)) (0 : Int))))))) == ((ByteArray.size c.1.2.2.2.2.2.1 : Nat) : Int)), ())) else none) else none) else none) else none) else (some (false, ()))) else none) else none) else (some (false, ())))) else (some (false, ())))) else (some (false, ()))))) = some (true, ()) := by
  have hcs := csize_is (n := 1000) (by decide) (by decide) c hk (by omega)
  have hlen : (wC c).length = 46 + c.1.2.2.2.2.2.1.size + (exB c).length := cB_len c c.1.1 (timeN c.1.2.1) (dateN c.1.2.1)
  rw [← hM, ← hT] at hcs
  rw [cwrite_is (by decide) (by decide) c hk, Option.bind_some, hcs, Option.bind_some, if_pos (by simp)]
  by_cases hc : chkV 1000 c.1 = 0
  · obtain ⟨hH, g10, g12, g14, g16, g28⟩ := wr_fields c hk hc []
    rw [List.append_nil] at hH g28
    have hwb : By (wC c) := cB_by c c.1.1 (timeN c.1.2.1) (dateN c.1.2.1)
    have t28 := get2 hwb (i := 28) (by omega)
    have t30 := get2 hwb (i := 30) (by omega)
    have y28 := hwb.getD 28
    have y29 := hwb.getD 29
    have y30 := hwb.getD 30
    have y31 := hwb.getD 31
    have hel := exB_len c
    have h28 := exN_le c
    have h32 : (exB c).length ≤ 32 := by rw [hel]; split <;> omega
    rw [hH.h30] at t30
    rw [g28] at t28
    have e30 : (wC c).getD 30 0 = M := by omega
    have e1 : wr .i64 ((wC c).getD 30 0) = M := by rw [wr64 (by omega) (by omega)]; exact e30
    have e2 : wr .i64 ((wC c).getD 28 0) = (wC c).getD 28 0 := wr64 (by omega) (by omega)
    have e3 : wr .i64 ((wC c).getD 29 0) = (wC c).getD 29 0 := wr64 (by omega) (by omega)
    have e4 : wr .i64 (256 * (wC c).getD 29 0) = 256 * (wC c).getD 29 0 := wr64 (by omega) (by omega)
    have e5 : wr .i64 ((wC c).getD 28 0 + 256 * (wC c).getD 29 0) = (c.1.2.2.2.2.2.1.size : Int) := by rw [wr64 (by omega) (by omega)]; exact t28.symm
    rw [if_pos hc, if_neg (show ¬ (((0 : Int) != 0) = true) by decide), if_pos (show ((0 : Int) == 0) = true from rfl), Option.bind_some]
    dsimp only
    rw [if_pos (show ((((wC c).length : Nat) : Int) == T) = true by rw [beq_iff_eq]; omega), if_pos (by decide), if_pos (by omega), show (Int.toNat (30 : Int)) = 30 from rfl, show (Int.toNat (28 : Int)) = 28 from rfl, show (Int.toNat (29 : Int)) = 29 from rfl, e1, if_pos (by simp), if_pos (by decide), if_pos (by omega), if_pos (by decide), if_pos (by omega), e2, e3, e4, e5]
    simp
  · rw [if_neg hc, if_pos (by simp [hc])]
    rfl
theorem sz_step {n m k : Nat} (C : Bx) {xs : List Int} (hx : xs.length = 3) {i : Nat} (hi : i < 3) {v : Int} (hv : xs.getD i 0 = v) {M : Int} (hM : 0 ≤ M ∧ M ≤ 100) :
    law19_CentralSizes.l0 n m (k + 1) (C, M, xs, 3, (i : Int), ()) = law19_CentralSizes.l0 n m k (C, M + (if 4294967295 ≤ v then 8 else 0), xs, 3, ((i + 1 : Nat) : Int), ()) := by
  obtain ⟨b0, b1, b2, b3, b4, b5, b6, b7, b8, b9, b10, b11, b12, u⟩ := C
  have e1 : wr .i64 ((i : Int) + 1) = ((i + 1 : Nat) : Int) := by rw [wr64 (by omega) (by omega)]; omega
  have e2 : wr .i64 (M + 8) = M + 8 := wr64 (by omega) (by omega)
  rw [law19_CentralSizes.l0_eq, if_pos (by simp; omega), if_pos (by omega), if_pos (by omega), Int.toNat_natCast, hv]
  by_cases h : 4294967295 ≤ v
  · rw [if_pos (decide_eq_true h), if_pos h, e1, e2]
  · rw [if_neg (by simpa using h), if_neg h, e1, Int.add_zero]
theorem centralSizes (c : Rec) (hk : RcOk c) : law19_CentralSizes.f 1000 (c, ()) = some (true, ()) := by
  rw [law19_CentralSizes.eq, alive19, Option.bind_some, if_neg (show ¬ ((!true) = true) by decide)]
  by_cases h1 : c.1.2.2.2.2.2.1.size > 300
  · rw [if_pos (decide_eq_true (by omega))]
  rw [if_neg (by simp; omega)]
  obtain ⟨A1, hA1⟩ : ∃ A : Int, A = if 4294967295 ≤ c.1.2.2.2.1 then 8 else 0 := ⟨_, rfl⟩
  obtain ⟨A2, hA2⟩ : ∃ A : Int, A = if 4294967295 ≤ c.1.2.2.2.2.1 then 8 else 0 := ⟨_, rfl⟩
  obtain ⟨A3, hA3⟩ : ∃ A : Int, A = if 4294967295 ≤ c.2.2.1 then 8 else 0 := ⟨_, rfl⟩
  have r1 : A1 = 0 ∨ A1 = 8 := by rw [hA1]; split <;> omega
  have r2 : A2 = 0 ∨ A2 = 8 := by rw [hA2]; split <;> omega
  have r3 : A3 = 0 ∨ A3 = 8 := by rw [hA3]; split <;> omega
  have hloop : ∀ k, law19_CentralSizes.l0 1000 1000 (k + 4) (bxOf c, 0, [c.1.2.2.2.1, c.1.2.2.2.2.1, c.2.2.1], 3, 0, ()) = some (bxOf c, 0 + A1 + A2 + A3, ()) := fun k => by
    refine (sz_step (k := k + 3) (bxOf c) (xs := [c.1.2.2.2.1, c.1.2.2.2.2.1, c.2.2.1]) rfl (i := 0) (by decide) (v := c.1.2.2.2.1) rfl (by omega)).trans ?_
    rw [← hA1]
    refine (sz_step (k := k + 2) (bxOf c) (xs := [c.1.2.2.2.1, c.1.2.2.2.2.1, c.2.2.1]) rfl (i := 1) (by decide) (v := c.1.2.2.2.2.1) rfl (by omega)).trans ?_
    rw [← hA2]
    refine (sz_step (k := k + 1) (bxOf c) (xs := [c.1.2.2.2.1, c.1.2.2.2.2.1, c.2.2.1]) rfl (i := 2) (by decide) (v := c.2.2.1) rfl (by omega)).trans ?_
    rw [← hA3]
    refine (law19_CentralSizes.l0_eq ..).trans ?_
    rw [if_neg (by decide)]
  refine (bindE (hloop 996)).trans ?_
  have f1 := fit1_n 8 4294967295 c.1.2.2.2.2.1
  have f2 := fit1_n 8 4294967295 c.1.2.2.2.1
  have f3 := fit1_n 8 4294967295 c.2.2.1
  have f4 := fit1_n 4 65535 c.2.1
  have hN : (exN c : Int) = A2 + A1 + A3 + (if 65535 ≤ c.2.1 then 4 else 0) := by
    unfold exN exL
    rw [les_append, les_append, les_append, List.length_append, List.length_append, List.length_append, f1, f2, f3, f4, hA1, hA2, hA3]
    split <;> split <;> split <;> split <;> omega
  have hel := exB_len c
  have z : ∀ x : Int, 0 ≤ x → x ≤ 100 → wr .i64 (wr .i64 (46 + (c.1.2.2.2.2.2.1.size : Int)) + x) = 46 + (c.1.2.2.2.2.2.1.size : Int) + x := fun x h0 h1 => by
    rw [wr64 (x := 46 + (c.1.2.2.2.2.2.1.size : Int)) (by omega) (by omega), wr64 (by omega) (by omega)]
  have z4 : wr .i64 (0 + A1 + A2 + A3 + 4) = 0 + A1 + A2 + A3 + 4 := wr64 (by omega) (by omega)
  have z8 : wr .i64 (0 + A1 + A2 + A3 + 4 + 4) = 0 + A1 + A2 + A3 + 4 + 4 := wr64 (by omega) (by omega)
  dsimp only
  rw [z4, z8]
  by_cases hd : 65535 ≤ c.2.1
  · rw [if_pos hd] at hN
    rw [if_pos (decide_eq_true hd), if_pos (by simp; omega)]
    exact csizes_tail c hk (by omega) _ _ (by rw [hel, if_neg (by omega)]; omega) (z _ (by omega) (by omega))
  · rw [if_neg hd] at hN
    rw [if_neg (by simpa using hd)]
    by_cases h0 : 0 + A1 + A2 + A3 > 0
    · rw [if_pos (decide_eq_true h0)]
      exact csizes_tail c hk (by omega) _ _ (by rw [hel, if_neg (by omega)]; omega) (z _ (by omega) (by omega))
    · rw [if_neg (by simpa using h0)]
      exact csizes_tail c hk (by omega) _ _ (by rw [hel, if_pos (by omega)]; omega) (z _ (by omega) (by omega))
theorem pure_CentralWrites (z0 : RK.den) (f0 : KWf RK z0) : law19_CentralWrites.f 1000 (z0, ()) = some (true, ()) := centralWrites z0 (rc_of f0)
theorem pure_CentralParses (z0 : (Ki.list (.int .u8)).den) (f0 : KWf (.list (.int .u8)) z0) : law19_CentralParses.f 1000 (z0, ()) = some (true, ()) := centralParses z0 (by_of f0)
theorem pure_CentralBack (z0 : RK.den) (z1 z2 : (Ki.list (.int .u8)).den) (z3 : (Ki.int .i64).den) (f0 : KWf RK z0) (f1 : KWf (.list (.int .u8)) z1) (f2 : KWf (.list (.int .u8)) z2) (f3 : KWf (.int .i64) z3) : law19_CentralBack.f 1000 (z0, z1, z2, z3, ()) = some (true, ()) := centralBack z0 (rc_of f0) z1 z2 z3 (by_of f1) (by_of f2)
theorem pure_CentralRows (z0 z1 : RK.den) (f0 : KWf RK z0) (f1 : KWf RK z1) : law19_CentralRows.f 1000 (z0, z1, ()) = some (true, ()) := centralRows z0 z1 (rc_of f0) (rc_of f1)
theorem pure_CentralSizes (z0 : RK.den) (f0 : KWf RK z0) : law19_CentralSizes.f 1000 (z0, ()) = some (true, ()) := centralSizes z0 (rc_of f0)
end Go.Proofs.YtcnegcjjeakmmaaDoor.Vm

