/- Joined texts of own work. Conditions: as each theorem states them. -/
import Derived.Test.YtlioalaehkohlaaDoorYz
namespace Go.Proofs.YtlioalaehkohlaaDoor.Vm
open Go Go.RowKit
set_option linter.unusedVariables false
set_option linter.unusedSimpArgs false
set_option maxRecDepth 10000
theorem wr64 {x : Int} (h : -9223372036854775808 ≤ x) (h' : x < 9223372036854775808) : wr .i64 x = x := by rw [wr_eq, IntKind.wrap_i64]; omega
theorem wru64 {x : Int} (h : 0 ≤ x) (h' : x < 18446744073709551616) : wr .u64 x = x := by rw [wr_eq, IntKind.wrap_u64]; omega
theorem wru64_mod (x : Int) : wr .u64 x = x % 18446744073709551616 := by rw [wr_eq, IntKind.wrap_u64]
theorem wru8 (x : Int) : wr .u8 x = x % 256 := by rw [wr_eq, IntKind.wrap_u8]
theorem wru16 (x : Int) : wr .u16 x = x % 65536 := by rw [wr_eq]; simp [IntKind.wrap, IntKind.bits, IntKind.signed]
theorem wru32 (x : Int) : wr .u32 x = x % 4294967296 := by rw [wr_eq, IntKind.wrap_u32]
theorem shr8 (x : Int) : shrV .u64 x 8 = x / 256 := by
  unfold shrV
  show Int.fdiv x (2 ^ min (Int.toNat 8) 64) = _
  rw [Int.fdiv_eq_ediv_of_nonneg _ (by decide)]
  rfl
theorem lim_of {x : Int} (h : x ≤ 4294967296) : x ≤ lim := h
/-- bytes -/
def By (l : List Int) : Prop := ∀ x ∈ l, 0 ≤ x ∧ x < 256
theorem By.nil : By [] := fun x h => by cases h
theorem By.cons {a : Int} {l : List Int} (h0 : 0 ≤ a) (h1 : a < 256) (h : By l) : By (a :: l) := fun x hx => by
  rcases List.mem_cons.1 hx with rfl | hx
  · exact ⟨h0, h1⟩
  · exact h x hx
theorem By.head {a : Int} {l : List Int} (h : By (a :: l)) : 0 ≤ a ∧ a < 256 := h a (List.mem_cons_self ..)
theorem By.tail {a : Int} {l : List Int} (h : By (a :: l)) : By l := fun x hx => h x (List.mem_cons_of_mem _ hx)
theorem By.drop {l : List Int} (h : By l) (i : Nat) : By (l.drop i) := fun x hx => h x (List.mem_of_mem_drop hx)
theorem By.take {l : List Int} (h : By l) (i : Nat) : By (l.take i) := fun x hx => h x (List.mem_of_mem_take hx)
theorem By.append {l m : List Int} (h : By l) (h' : By m) : By (l ++ m) := fun x hx => by
  rcases List.mem_append.1 hx with hx | hx
  · exact h x hx
  · exact h' x hx
theorem By.getD {l : List Int} (h : By l) (i : Nat) : 0 ≤ l.getD i 0 ∧ l.getD i 0 < 256 := by
  rw [List.getD_eq_getElem?_getD]
  cases hi : l[i]? with
  | none => simp
  | some x => exact h x (List.mem_of_getElem? hi)
/-- a number's lowest bytes -/
def le : Nat → Int → List Int
  | 0, _ => []
  | k + 1, x => x % 256 :: le k (x / 256)
/-- the number of bytes -/
def ge : List Int → Int
  | [] => 0
  | a :: r => a + 256 * ge r
theorem le_len : ∀ (k : Nat) (x : Int), (le k x).length = k
  | 0, _ => rfl
  | k + 1, x => congrArg (· + 1) (le_len k _)
theorem le_by : ∀ (k : Nat) (x : Int), By (le k x)
  | 0, _ => By.nil
  | k + 1, x => By.cons (Int.emod_nonneg _ (by decide)) (Int.emod_lt_of_pos _ (by decide)) (le_by k _)
theorem ge_nonneg : ∀ {l : List Int}, By l → 0 ≤ ge l
  | [], _ => Int.le_refl _
  | a :: r, h => by have := ge_nonneg h.tail; have := h.head; show 0 ≤ a + 256 * ge r; omega
theorem ge_lt : ∀ {l : List Int}, By l → ge l < 256 ^ l.length
  | [], _ => by decide
  | a :: r, h => by
    have h1 := ge_lt h.tail
    have h2 := h.head
    show a + 256 * ge r < 256 ^ (r.length + 1)
    rw [Int.pow_succ]; omega
theorem ge_le : ∀ (k : Nat) {x : Int}, 0 ≤ x → x < 256 ^ k → ge (le k x) = x
  | 0, x, h0, h1 => by simp at h1; show (0 : Int) = x; omega
  | k + 1, x, h0, h1 => by
    rw [Int.pow_succ] at h1
    show x % 256 + 256 * ge (le k (x / 256)) = x
    rw [ge_le k (by omega) (by omega)]; omega
theorem le_ge : ∀ {l : List Int}, By l → le l.length (ge l) = l
  | [], _ => rfl
  | a :: r, h => by
    have h2 := h.head
    show (a + 256 * ge r) % 256 :: le r.length ((a + 256 * ge r) / 256) = _
    rw [show (a + 256 * ge r) % 256 = a by omega, show (a + 256 * ge r) / 256 = ge r by omega, le_ge h.tail]
theorem le_inj (k : Nat) {x y : Int} (hx : 0 ≤ x) (hx' : x < 256 ^ k) (hy : 0 ≤ y) (hy' : y < 256 ^ k) (h : le k x = le k y) : x = y := by
  rw [← ge_le k hx hx', ← ge_le k hy hy', h]
theorem le_mod : ∀ (k : Nat) (x : Int), le k (x % 256 ^ k) = le k x
  | 0, _ => rfl
  | k + 1, x => by
    have hp : (0 : Int) < 256 ^ k := Int.pow_pos (by decide)
    show x % 256 ^ (k + 1) % 256 :: le k (x % 256 ^ (k + 1) / 256) = x % 256 :: le k (x / 256)
    have e1 : x % 256 ^ (k + 1) % 256 = x % 256 := by
      rw [Int.pow_succ]; exact Int.emod_emod_of_dvd _ (Int.dvd_mul_left ..)
    have e2 : x % 256 ^ (k + 1) / 256 = (x / 256) % 256 ^ k := by
      rw [Int.pow_succ, Int.mul_comm]
      have h1 := Int.emod_def x (256 * 256 ^ k)
      rw [h1, Int.emod_def (x / 256) (256 ^ k), Int.ediv_ediv_of_nonneg (by decide : (0 : Int) ≤ 256), Int.mul_assoc]
      omega
    rw [e1, e2, le_mod k]
theorem held_le (s : Int) (h0 : 0 ≤ s) (h8 : s ≤ 8) (n : Nat) : little_held.f n (s, ()) = some (s, ()) := by
  rw [little_held.eq, if_neg (show ¬ s < 0 by omega), if_neg (by omega)]
theorem put_l0 (n m : Nat) : ∀ (d k : Nat) (x : Int) (out : List Int) (c i : Int), i + d = c → 0 ≤ i → c ≤ 8 → out.length + d ≤ 1000 → d < k → little_Put.l0 n m k (x, out, c, i, ()) = some (out ++ le d x, ())
  | 0, 0, _, _, _, _, _, _, _, _, h => absurd h (by decide)
  | d + 1, 0, _, _, _, _, _, _, _, _, h => absurd h (by omega)
  | 0, k + 1, x, out, c, i, h, h0, h8, hl, hk => by
    rw [little_Put.l0_eq, if_neg (by simp; omega)]
    simp [le]
  | d + 1, k + 1, x, out, c, i, h, h0, h8, hl, hk => by
    rw [little_Put.l0_eq, if_pos (by simp; omega), if_pos (lim_of (by simp; omega)), wru8, shr8, wr64 (by omega) (by omega), put_l0 n m d k (x / 256) (out ++ [x % 256]) c (i + 1) (by omega) (by omega) h8 (by simp; omega) (by omega)]
    simp [le]
theorem put_is {n : Nat} (hn : 9 ≤ n) (x s : Int) (h0 : 0 ≤ s) (h8 : s ≤ 8) : little_Put.f n (x, s, ()) = some (le s.toNat x, ()) := by
  rw [little_Put.eq, held_le s h0 h8, Option.bind_some, put_l0 n n s.toNat n x [] s 0 (by omega) (by omega) h8 (by simp; omega) (by omega)]
  simp
theorem rput_l0 (n m : Nat) : ∀ (d k : Nat) (x : Int) (out : List Int) (c i : Int), i + d = c → 0 ≤ i → c ≤ 8 → out.length + d ≤ 1000 → d < k → 0 ≤ x → x < 18446744073709551616 → ref07_Put.l0 n m k (x, c, out, i, ()) = some (out ++ le d x, ())
  | 0, 0, _, _, _, _, _, _, _, _, h, _, _ => absurd h (by decide)
  | d + 1, 0, _, _, _, _, _, _, _, _, h, _, _ => absurd h (by omega)
  | 0, k + 1, x, out, c, i, h, h0, h8, hl, hk, hx, hx' => by
    rw [ref07_Put.l0_eq, if_neg (by simp; omega)]
    simp [le]
  | d + 1, k + 1, x, out, c, i, h, h0, h8, hl, hk, hx, hx' => by
    have e1 : x.tdiv 256 = x / 256 := Int.tdiv_eq_ediv_of_nonneg hx
    have e2 : x.tmod 256 = x % 256 := Int.tmod_eq_emod_of_nonneg hx
    rw [ref07_Put.l0_eq, if_pos (by simp; omega), if_pos (by simp; omega), if_pos (lim_of (by simp; omega)), e1, e2, wru8, wru64 (by omega) (by omega), wr64 (by omega) (by omega), rput_l0 n m d k (x / 256) (out ++ [x % 256 % 256]) c (i + 1) (by omega) (by omega) h8 (by simp; omega) (by omega) (by omega) (by omega)]
    simp [le]
theorem rput_is {n : Nat} (hn : 9 ≤ n) (x s : Int) (hx : 0 ≤ x) (hx' : x < 18446744073709551616) (h0 : 0 ≤ s) (h8 : s ≤ 8) : ref07_Put.f n (x, s, ()) = some (le s.toNat x, ()) := by
  rw [ref07_Put.eq, rput_l0 n n s.toNat n x [] s 0 (by omega) (by omega) h8 (by simp; omega) (by omega) hx hx']
  simp
theorem or_nat (y b : Nat) (h1 : y ||| b = y + b) (h2 : y + b < 18446744073709551616) : bor .u64 ((y : Nat) : Int) ((b : Nat) : Int) = ((y + b : Nat) : Int) := by
  have hy : y < 18446744073709551616 := Nat.lt_of_le_of_lt (Nat.le_add_right y b) h2
  have hb : b < 18446744073709551616 := Nat.lt_of_le_of_lt (Nat.le_add_left b y) h2
  have m1 : y % 18446744073709551616 = y := Nat.mod_eq_of_lt hy
  have m2 : b % 18446744073709551616 = b := Nat.mod_eq_of_lt hb
  have w1 : wr IntKind.u64 (((y + b : Nat) : Int)) = ((y + b : Nat) : Int) := by
    clear h1
    exact wru64 (by omega) (by omega)
  show wr IntKind.u64 ((BitVec.ofInt 64 ((y : Nat) : Int) ||| BitVec.ofInt 64 ((b : Nat) : Int)).toNat : Int) = _
  simp only [BitVec.ofInt_natCast, BitVec.toNat_or, BitVec.toNat_ofNat]
  rw [show (2 : Nat) ^ 64 = 18446744073709551616 from rfl, m1, m2, h1, w1]
theorem or_add {x b : Int} (hx0 : 0 ≤ x) (hx : x < 72057594037927936) (hb0 : 0 ≤ b) (hb : b < 256) : bor .u64 (shlV .u64 x 8) (wr .u64 b) = x * 256 + b := by
  have e : shlV .u64 x 8 = x * 256 := by
    show wr .u64 (x * 2 ^ min (Int.toNat 8) 64) = _
    rw [show (2 : Int) ^ min (Int.toNat 8) 64 = 256 from rfl, wru64 (by omega) (by omega)]
  rw [e, wru64 hb0 (by omega)]
  obtain ⟨y, rfl⟩ := Int.eq_ofNat_of_zero_le hx0
  obtain ⟨c, rfl⟩ := Int.eq_ofNat_of_zero_le hb0
  have := Nat.two_pow_add_eq_or_of_lt (i := 8) (b := c) (by omega) y
  rw [show (2 : Nat) ^ 8 = 256 from rfl, Nat.mul_comm] at this
  have h3 := or_nat (y * 256) c this.symm (by omega)
  rw [show ((y : Int) * 256) = ((y * 256 : Nat) : Int) by omega, h3]
  omega
theorem ge_drop {l : List Int} {i : Nat} (h : i < l.length) : ge (l.drop i) = l.getD i 0 + 256 * ge (l.drop (i + 1)) := by
  rw [List.drop_eq_getElem_cons h, List.getD_eq_getElem?_getD, List.getElem?_eq_getElem h]; rfl
theorem pow_le7 {n : Nat} (h : n ≤ 7) : (256 : Int) ^ n ≤ 72057594037927936 := by
  have : 256 ^ n ≤ 256 ^ 7 := Nat.pow_le_pow_right (by decide) h
  have h2 : (((256 ^ n : Nat)) : Int) ≤ ((256 ^ 7 : Nat) : Int) := Int.ofNat_le.2 this
  simpa using h2
theorem get_l0 (n m : Nat) {l : List Int} (hb : By l) (h8 : l.length ≤ 8) : ∀ (i k : Nat), i ≤ l.length → i < k → little_Get.l0 n m k (l, ge (l.drop i), (i : Int) - 1, ()) = some (ge l, ())
  | 0, 0, _, h => absurd h (by decide)
  | i + 1, 0, _, h => absurd h (by omega)
  | 0, k + 1, hi, hk => by
    rw [little_Get.l0_eq, if_neg (by simp)]
    simp
  | i + 1, k + 1, hi, hk => by
    have h1 := ge_lt (hb.drop (i + 1))
    have h2 := pow_le7 (n := (l.drop (i + 1)).length) (by rw [List.length_drop]; omega)
    have h3 := hb.getD i
    have e : (((i + 1 : Nat) : Int) - 1).toNat = i := by omega
    rw [little_Get.l0_eq, if_pos (by simp), if_pos (by omega), if_pos (by omega), e, or_add (ge_nonneg (hb.drop _)) (by omega) h3.1 h3.2, show ge (l.drop (i + 1)) * 256 + l.getD i 0 = ge (l.drop i) by rw [ge_drop (l := l) (i := i) (by omega)]; omega, wr64 (by omega) (by omega), show ((i + 1 : Nat) : Int) - 1 - 1 = (i : Int) - 1 by omega]
    exact get_l0 n m hb h8 i k (by omega) (by omega)
theorem get_is {n : Nat} (hn : 9 ≤ n) {l : List Int} (hb : By l) (h8 : l.length ≤ 8) : little_Get.f n (l, ()) = some (ge l, ()) := by
  rw [little_Get.eq, if_neg (by omega), wr64 (by omega) (by omega)]
  have := get_l0 n n hb h8 l.length n (Nat.le_refl _) (by omega)
  rw [List.drop_length] at this
  rw [show ge [] = 0 from rfl] at this
  rw [this]; rfl
theorem ge_take {l : List Int} : ∀ {i : Nat}, i < l.length → ge (l.take (i + 1)) = ge (l.take i) + l.getD i 0 * 256 ^ i := by
  induction l with
  | nil => intro i h; simp at h
  | cons a r ih =>
    intro i h
    cases i with
    | zero => simp [ge]
    | succ i =>
      rw [List.take_succ_cons, List.take_succ_cons]
      show a + 256 * ge (r.take (i + 1)) = a + 256 * ge (r.take i) + r.getD i 0 * 256 ^ (i + 1)
      rw [ih (by simpa using h), Int.pow_succ, Int.mul_add, ← Int.mul_assoc (r.getD i 0), Int.mul_comm (r.getD i 0 * 256 ^ i) 256]
      omega
theorem pow_le8 {n : Nat} (h : n ≤ 8) : (256 : Int) ^ n ≤ 18446744073709551616 := by
  have : 256 ^ n ≤ 256 ^ 8 := Nat.pow_le_pow_right (by decide) h
  have h2 : (((256 ^ n : Nat)) : Int) ≤ ((256 ^ 8 : Nat) : Int) := Int.ofNat_le.2 this
  simpa using h2
theorem rget_l0 (n m : Nat) {l : List Int} (hb : By l) (h8 : l.length ≤ 8) : ∀ (d i k : Nat) (y : Int), i + d = l.length → d < k → (i < 8 → y = 256 ^ i) → ref07_Get.l0 n m k (l, ge (l.take i), y, (i : Int), ()) = some (ge l, ())
  | 0, i, 0, _, _, h, _ => absurd h (by decide)
  | d + 1, i, 0, _, _, h, _ => absurd h (by omega)
  | 0, i, k + 1, y, hi, hk, hy => by
    rw [ref07_Get.l0_eq, if_neg (by simp; omega), List.take_of_length_le (by omega)]
  | d + 1, i, k + 1, y, hi, hk, hy => by
    have hy := hy (by omega)
    subst hy
    have h3 := hb.getD i
    have h4 := ge_take (l := l) (i := i) (by omega)
    have h5 := ge_lt (hb.take (i + 1))
    have h6 := ge_nonneg (hb.take (i + 1))
    have h0 := ge_nonneg (hb.take i)
    have h7 : (256 : Int) ^ (l.take (i + 1)).length ≤ 18446744073709551616 := pow_le8 (by rw [List.length_take]; omega)
    have hp : (0 : Int) ≤ l.getD i 0 * 256 ^ i := Int.mul_nonneg h3.1 (Int.le_of_lt (Int.pow_pos (by decide)))
    have e : ((i : Int)).toNat = i := by omega
    rw [ref07_Get.l0_eq, if_pos (by simp; omega), if_pos (by simp; omega), if_pos (by omega), if_pos (by omega), e, wru64 h3.1 (by omega), wru64 hp (by omega), wru64 (by omega) (by omega), ← h4, wr64 (x := (i : Int) + 1) (by omega) (by omega), show (i : Int) + 1 = ((i + 1 : Nat) : Int) by omega]
    refine rget_l0 n m hb h8 d (i + 1) k _ (by omega) (by omega) (fun hi8 => ?_)
    have h9 : (256 : Int) ^ (i + 1) ≤ 72057594037927936 := pow_le7 (by omega)
    rw [← Int.pow_succ, wru64 (Int.le_of_lt (Int.pow_pos (by decide))) (by omega)]
theorem rget_is {n : Nat} (hn : 9 ≤ n) {l : List Int} (hb : By l) (h8 : l.length ≤ 8) : ref07_Get.f n (l, ()) = some (ge l, ()) := by
  rw [ref07_Get.eq]
  have := rget_l0 n n hb h8 l.length 0 n 1 (by omega) (by omega) (fun _ => rfl)
  rw [show ge (l.take 0) = 0 from rfl] at this
  rw [show ((0 : Nat) : Int) = 0 from rfl] at this
  rw [this]; rfl
end Go.Proofs.YtlioalaehkohlaaDoor.Vm

namespace Go.Proofs.YtlioalaehkohlaaDoor.Vm
open Go Go.RowKit
set_option linter.unusedVariables false
set_option linter.unusedSimpArgs false
set_option maxRecDepth 10000
theorem clone_is (n : Nat) {l : List Int} (h : l.length ≤ 4294967296) : slices_Clone_byte_byte.f n (l, ()) = some (l, ()) :=
  if_pos (lim_of (show (List.length l : Int) ≤ 4294967296 by omega))
theorem getD_eq {l : List Int} {i : Nat} (h : i < l.length) : l.getD i 0 = l[i] := by
  rw [List.getD_eq_getElem?_getD, List.getElem?_eq_getElem h]; rfl
theorem same_l0 (n m : Nat) {a b : List Int} (hab : a.length = b.length) (hl : a.length < 4611686018427387904) : ∀ (d i k : Nat), i + d = a.length → d < k → ref01_Same.l0 n m k (a, b, (i : Int), ()) = some (if a.drop i = b.drop i then Sum.inr () else Sum.inl (false, ()))
  | 0, i, 0, _, h => absurd h (by decide)
  | d + 1, i, 0, _, h => absurd h (by omega)
  | 0, i, k + 1, hi, hk => by
    rw [ref01_Same.l0_eq, if_neg (by simp; omega), List.drop_eq_nil_of_le (by omega), List.drop_eq_nil_of_le (by omega), if_pos rfl]
  | d + 1, i, k + 1, hi, hk => by
    have ha : i < a.length := by omega
    have hb : i < b.length := by omega
    have e : ((i : Int)).toNat = i := by omega
    rw [ref01_Same.l0_eq, if_pos (by simp; omega), if_pos (by omega), if_pos (by omega), if_pos (by omega), if_pos (by omega), e, getD_eq ha, getD_eq hb, List.drop_eq_getElem_cons ha, List.drop_eq_getElem_cons hb]
    by_cases hx : a[i] = b[i]
    · rw [if_neg (by simp [hx]), wr64 (by omega) (by omega), show (i : Int) + 1 = ((i + 1 : Nat) : Int) by omega, same_l0 n m hab hl d (i + 1) k (by omega) (by omega)]
      simp only [List.cons.injEq, hx, true_and]
    · rw [if_pos (by simp [hx]), if_neg (fun h => hx (List.cons.inj h).1)]
theorem same_is {n : Nat} {a b : List Int} (hl : a.length < n) (hn : n < 4611686018427387904) : ref01_Same.f n (a, b, ()) = some (decide (a = b), ()) := by
  rw [ref01_Same.eq]
  by_cases hab : a.length = b.length
  · rw [if_neg (by simp [hab])]
    have := same_l0 n n hab (by omega) a.length 0 n (by omega) (by omega)
    rw [show ((0 : Nat) : Int) = 0 from rfl] at this
    rw [this, Option.bind_some]
    by_cases h : a = b
    · simp [h]
    · simp [h]
  · rw [if_pos (by simp; omega)]
    have : a ≠ b := fun h => hab (by rw [h])
    simp [this]
theorem join_l0 (n m : Nat) {xs : List (List Int)} (hl : xs.flatten.length ≤ 4294967296) (hx : xs.length < 4611686018427387904) : ∀ (d i k : Nat), i + d = xs.length → d < k → ref01_Join.l0 n m k (xs, (xs.take i).flatten, (i : Int), ()) = some (xs.flatten, ())
  | 0, i, 0, _, h => absurd h (by decide)
  | d + 1, i, 0, _, h => absurd h (by omega)
  | 0, i, k + 1, hi, hk => by
    rw [ref01_Join.l0_eq, if_neg (by simp; omega), List.take_of_length_le (by omega)]
  | d + 1, i, k + 1, hi, hk => by
    have hi' : i < xs.length := by omega
    have e : ((i : Int)).toNat = i := by omega
    have e2 : xs.getD i [] = xs[i] := by rw [List.getD_eq_getElem?_getD, List.getElem?_eq_getElem hi']; rfl
    have e3 : (xs.take i).flatten ++ xs[i] = (xs.take (i + 1)).flatten := by
      rw [List.take_add_one, List.getElem?_eq_getElem hi', List.flatten_append]
      simp only [Option.toList_some, List.flatten_cons, List.flatten_nil, List.append_nil]
    have e4 : (xs.take (i + 1)).flatten.length ≤ xs.flatten.length := by
      have : xs.flatten = (xs.take (i + 1)).flatten ++ (xs.drop (i + 1)).flatten := by rw [← List.flatten_append, List.take_append_drop]
      rw [this, List.length_append]; omega
    rw [← e3, List.length_append] at e4
    rw [ref01_Join.l0_eq, if_pos (by simp; omega), if_pos (by omega), if_pos (by omega), e, e2, if_pos (lim_of (by omega)), e3, wr64 (by omega) (by omega), show (i : Int) + 1 = ((i + 1 : Nat) : Int) by omega]
    exact join_l0 n m hl hx d (i + 1) k (by omega) (by omega)
theorem join_is {n : Nat} {xs : List (List Int)} (hl : xs.flatten.length ≤ 4294967296) (hx : xs.length < n) (hn : n < 4611686018427387904) : ref01_Join.f n (xs, ()) = some (xs.flatten, ()) := by
  rw [ref01_Join.eq]
  have := join_l0 n n hl (by omega) xs.length 0 n (by omega) (by omega)
  rw [show ((0 : Nat) : Int) = 0 from rfl, show (xs.take 0).flatten = [] from rfl] at this
  rw [this]; rfl
theorem cat_l0 (n m : Nat) {xs : List (List Int)} (hl : xs.flatten.length ≤ 4294967296) (hx : xs.length < 4611686018427387904) : ∀ (d i k : Nat), i + d = xs.length → d < k → slices_Concat_byte_byte.l0 n m k (xs, (((xs.take i).flatten.length : Nat) : Int), xs, (xs.length : Int), (i : Int), ()) = some (xs, ((xs.flatten.length : Nat) : Int), ())
  | 0, i, 0, _, h => absurd h (by decide)
  | d + 1, i, 0, _, h => absurd h (by omega)
  | 0, i, k + 1, hi, hk => by
    rw [slices_Concat_byte_byte.l0_eq, if_neg (by simp; omega), List.take_of_length_le (by omega)]
  | d + 1, i, k + 1, hi, hk => by
    have hi' : i < xs.length := by omega
    have e : ((i : Int)).toNat = i := by omega
    have e2 : xs.getD i [] = xs[i] := by rw [List.getD_eq_getElem?_getD, List.getElem?_eq_getElem hi']; rfl
    have e3 : (xs.take i).flatten ++ xs[i] = (xs.take (i + 1)).flatten := by
      rw [List.take_add_one, List.getElem?_eq_getElem hi', List.flatten_append]
      simp only [Option.toList_some, List.flatten_cons, List.flatten_nil, List.append_nil]
    have e4 : (xs.take (i + 1)).flatten.length ≤ xs.flatten.length := by
      have : xs.flatten = (xs.take (i + 1)).flatten ++ (xs.drop (i + 1)).flatten := by rw [← List.flatten_append, List.take_append_drop]
      rw [this, List.length_append]; omega
    have e5 : (((xs.take i).flatten.length : Nat) : Int) + ((xs[i].length : Nat) : Int) = (((xs.take (i + 1)).flatten.length : Nat) : Int) := by rw [← e3, List.length_append]; omega
    rw [slices_Concat_byte_byte.l0_eq, if_pos (by simp; omega), if_pos (by omega), if_pos (by omega), e, e2, e5, wr64 (by omega) (by omega), if_neg (by simp <;> omega), wr64 (by omega) (by omega), show (i : Int) + 1 = ((i + 1 : Nat) : Int) by omega]
    exact cat_l0 n m hl hx d (i + 1) k (by omega) (by omega)
theorem cat_l2 (n m : Nat) {xs : List (List Int)} (hl : xs.flatten.length ≤ 4294967296) (hx : xs.length < 4611686018427387904) : ∀ (d i k : Nat), i + d = xs.length → d < k → slices_Concat_byte_byte.l2 n m k ((xs.take i).flatten, xs, (xs.length : Int), (i : Int), ()) = some (xs.flatten, ())
  | 0, i, 0, _, h => absurd h (by decide)
  | d + 1, i, 0, _, h => absurd h (by omega)
  | 0, i, k + 1, hi, hk => by
    rw [slices_Concat_byte_byte.l2_eq, if_neg (by simp; omega), List.take_of_length_le (by omega)]
  | d + 1, i, k + 1, hi, hk => by
    have hi' : i < xs.length := by omega
    have e : ((i : Int)).toNat = i := by omega
    have e2 : xs.getD i [] = xs[i] := by rw [List.getD_eq_getElem?_getD, List.getElem?_eq_getElem hi']; rfl
    have e3 : (xs.take i).flatten ++ xs[i] = (xs.take (i + 1)).flatten := by
      rw [List.take_add_one, List.getElem?_eq_getElem hi', List.flatten_append]
      simp only [Option.toList_some, List.flatten_cons, List.flatten_nil, List.append_nil]
    have e4 : (xs.take (i + 1)).flatten.length ≤ xs.flatten.length := by
      have : xs.flatten = (xs.take (i + 1)).flatten ++ (xs.drop (i + 1)).flatten := by rw [← List.flatten_append, List.take_append_drop]
      rw [this, List.length_append]; omega
    rw [← e3, List.length_append] at e4
    rw [slices_Concat_byte_byte.l2_eq, if_pos (by simp; omega), if_pos (by omega), if_pos (by omega), e, e2, if_pos (lim_of (by omega)), e3, wr64 (by omega) (by omega), show (i : Int) + 1 = ((i + 1 : Nat) : Int) by omega]
    exact cat_l2 n m hl hx d (i + 1) k (by omega) (by omega)
theorem grow_is (n : Nat) {c : Int} (h0 : 0 ≤ c) (h : c ≤ 4294967296) : slices_Grow_byte_byte.f n ((), c, ()) = some ([], ()) := by
  have e : wr .i64 (c - 0) = c := by rw [wr64 (by omega) (by omega)]; omega
  rw [slices_Grow_byte_byte.eq, if_neg (by simp; omega), e]
  by_cases hc : 0 < c
  · rw [if_pos (by simp; omega), if_pos (by omega), if_pos (by omega), if_pos hc, if_pos (lim_of h), if_pos (by omega), if_pos (by omega)]
    rfl
  · rw [if_neg (by simp; omega)]
theorem cat_is {n : Nat} {xs : List (List Int)} (hl : xs.flatten.length ≤ 4294967296) (hx : xs.length < n) (hn : n < 4611686018427387904) : slices_Concat_byte_byte.f n (xs, ()) = some (xs.flatten, ()) := by
  have h1 := cat_l0 n n hl (by omega) xs.length 0 n (by omega) (by omega)
  have h2 := cat_l2 n n hl (by omega) xs.length 0 n (by omega) (by omega)
  rw [show ((0 : Nat) : Int) = 0 from rfl, show (xs.take 0).flatten = [] from rfl] at h1 h2
  rw [show (((List.length ([] : List Int)) : Nat) : Int) = 0 from rfl] at h1
  have h3 := grow_is n (c := ((xs.flatten.length : Nat) : Int)) (by omega) (by omega)
  rw [slices_Concat_byte_byte.eq, h1, Option.bind_some]
  show (slices_Grow_byte_byte.f n ((), ((xs.flatten.length : Nat) : Int), ())).bind _ = _
  rw [h3, Option.bind_some]
  show (slices_Concat_byte_byte.l2 n n n ([], xs, (xs.length : Int), 0, ())).bind _ = _
  rw [h2, Option.bind_some]
/-- numbers of so many bytes, one behind the other -/
def les : List (Nat × Int) → List Int
  | [] => []
  | p :: r => le p.1 p.2 ++ les r
theorem les_append : ∀ (l m : List (Nat × Int)), les (l ++ m) = les l ++ les m
  | [], m => rfl
  | p :: l, m => by show le p.1 p.2 ++ les (l ++ m) = (le p.1 p.2 ++ les l) ++ les m; rw [les_append l m, List.append_assoc]
theorem les_by : ∀ l, By (les l)
  | [] => By.nil
  | p :: l => (le_by _ _).append (les_by l)
end Go.Proofs.YtlioalaehkohlaaDoor.Vm

namespace Go.Proofs.YtlioalaehkohlaaDoor.Vm
open Go Go.RowKit
set_option linter.unusedVariables false
set_option linter.unusedSimpArgs false
set_option linter.unusedSectionVars false
set_option maxRecDepth 10000
theorem bv32 (b : BitVec 32) : (b.toNat : Int) < 4294967296 := by have := b.isLt; omega
theorem wr_bv (b : BitVec 32) : wr .u32 ((b.toNat : Nat) : Int) = ((b.toNat : Nat) : Int) := by rw [wru32]; have := bv32 b; omega
theorem of_bv (b : BitVec 32) : BitVec.ofInt (IntKind.bits .u32) ((b.toNat : Nat) : Int) = b := by
  show BitVec.ofInt 32 _ = b
  rw [BitVec.ofInt_natCast, BitVec.ofNat_toNat, BitVec.setWidth_eq]
theorem xor_bv (a b : BitVec 32) : bxor .u32 ((a.toNat : Nat) : Int) ((b.toNat : Nat) : Int) = (((a ^^^ b).toNat : Nat) : Int) := by
  unfold bxor bits2
  rw [of_bv, of_bv]
  exact wr_bv _
theorem and_bv (a b : BitVec 32) : band .u32 ((a.toNat : Nat) : Int) ((b.toNat : Nat) : Int) = (((a &&& b).toNat : Nat) : Int) := by
  unfold band bits2
  rw [of_bv, of_bv]
  exact wr_bv _
theorem not_bv (a : BitVec 32) : bnot .u32 ((a.toNat : Nat) : Int) = (((~~~a).toNat : Nat) : Int) := by
  have h := xor_bv (BitVec.allOnes 32) a
  rw [BitVec.allOnes_xor] at h
  exact h
theorem shr_bv (a : BitVec 32) (k : Nat) (hk : k ≤ 32) : shrV .u32 ((a.toNat : Nat) : Int) (k : Int) = (((a >>> k).toNat : Nat) : Int) := by
  unfold shrV
  show Int.fdiv _ (2 ^ min k 32) = _
  rw [Nat.min_eq_left hk, BitVec.toNat_ushiftRight, Nat.shiftRight_eq_div_pow, Int.fdiv_eq_ediv_of_nonneg _ (Int.le_of_lt (Int.pow_pos (by decide)))]
  rw [Int.natCast_ediv, Int.natCast_pow]
  rfl
/-- a bit's step; four bits' step, by the table -/
def bst (b : BitVec 32) : BitVec 32 := if b.getLsbD 0 then (b >>> 1) ^^^ 0xEDB88320#32 else b >>> 1
def tbB (i : Nat) : BitVec 32 := BitVec.ofInt 32 (List.getD tab0 i 0)
def nst (b : BitVec 32) : BitVec 32 := (b >>> 4) ^^^ tbB (b &&& 15#32).toNat
def cB (s : BitVec 32) (c : Int) : BitVec 32 := nst (nst (s ^^^ BitVec.ofInt 32 c))
theorem bst_xor (a b : BitVec 32) : bst (a ^^^ b) = bst a ^^^ bst b := by
  unfold bst
  rw [BitVec.getLsbD_xor, BitVec.ushiftRight_xor_distrib]
  cases a.getLsbD 0 <;> cases b.getLsbD 0 <;> simp only [Bool.false_xor, Bool.true_xor, Bool.not_true, Bool.not_false, Bool.false_eq_true, if_true, if_false]
  · rw [BitVec.xor_assoc]
  · rw [BitVec.xor_assoc, BitVec.xor_assoc, BitVec.xor_comm (b >>> 1)]
  · generalize a >>> 1 = x
    generalize b >>> 1 = y
    generalize 0xEDB88320#32 = p
    apply BitVec.eq_of_getLsbD_eq
    intro i hi
    simp only [BitVec.getLsbD_xor]
    cases x.getLsbD i <;> cases y.getLsbD i <;> cases p.getLsbD i <;> rfl
theorem bst_low (i : Fin 16) : bst (bst (bst (bst (BitVec.ofNat 32 i.val)))) = tbB i.val := by
  revert i
  decide +kernel
theorem bst_even {b : BitVec 32} (h : b.getLsbD 0 = false) : bst b = b >>> 1 := by
  unfold bst
  rw [h]
  rfl
theorem nst_eq (b : BitVec 32) : bst (bst (bst (bst b))) = nst b := by
  have e : b = (b &&& ~~~15#32) ^^^ (b &&& 15#32) := by
    apply BitVec.eq_of_getLsbD_eq
    intro i hi
    rw [BitVec.getLsbD_xor, BitVec.getLsbD_and, BitVec.getLsbD_and, BitVec.getLsbD_not]
    cases b.getLsbD i <;> cases (15#32).getLsbD i <;> simp [hi]
  have hz : ∀ i, i < 4 → (b &&& ~~~15#32).getLsbD i = false := fun i hi => by
    rw [BitVec.getLsbD_and, BitVec.getLsbD_not]
    have : (15#32).getLsbD i = true := by
      rcases (by omega : i = 0 ∨ i = 1 ∨ i = 2 ∨ i = 3) with rfl | rfl | rfl | rfl <;> rfl
    rw [this]; simp
  have h1 : bst (bst (bst (bst (b &&& ~~~15#32)))) = b >>> 4 := by
    have b1 := bst_even (hz 0 (by decide))
    have b2 : bst ((b &&& ~~~15#32) >>> 1) = _ := bst_even (by rw [BitVec.getLsbD_ushiftRight]; exact hz 1 (by decide))
    have b3 : bst ((b &&& ~~~15#32) >>> 1 >>> 1) = _ := bst_even (by rw [BitVec.getLsbD_ushiftRight, BitVec.getLsbD_ushiftRight]; exact hz 2 (by decide))
    have b4 : bst ((b &&& ~~~15#32) >>> 1 >>> 1 >>> 1) = _ := bst_even (by rw [BitVec.getLsbD_ushiftRight, BitVec.getLsbD_ushiftRight, BitVec.getLsbD_ushiftRight]; exact hz 3 (by decide))
    rw [b1, b2, b3, b4]
    apply BitVec.eq_of_getLsbD_eq
    intro i hi
    rw [BitVec.getLsbD_ushiftRight, BitVec.getLsbD_ushiftRight, BitVec.getLsbD_ushiftRight, BitVec.getLsbD_ushiftRight, BitVec.getLsbD_ushiftRight, BitVec.getLsbD_and, BitVec.getLsbD_not, show 1 + (1 + (1 + (1 + i))) = 4 + i by omega]
    have h15 : (15#32).getLsbD (4 + i) = false := by
      rw [BitVec.getLsbD_ofNat]
      have : Nat.testBit 15 (4 + i) = false := by
        rw [show 15 = 2 ^ 4 - 1 from rfl, Nat.testBit_two_pow_sub_one]; simp
      rw [this]; simp
    rw [h15]
    by_cases h : 4 + i < 32
    · simp [h]
    · rw [BitVec.getLsbD_of_ge b (4 + i) (by omega)]; simp
  have h2 : bst (bst (bst (bst (b &&& 15#32)))) = tbB (b &&& 15#32).toNat := by
    have hlt : (b &&& 15#32).toNat < 16 := by
      rw [BitVec.toNat_and]
      exact Nat.lt_of_le_of_lt Nat.and_le_right (by decide)
    have := bst_low ⟨(b &&& 15#32).toNat, hlt⟩
    simp only [BitVec.ofNat_toNat, BitVec.setWidth_eq] at this
    exact this
  conv => lhs; rw [e]
  rw [bst_xor, bst_xor, bst_xor, bst_xor, h1, h2]
  rfl
/-- the sum of bytes -/
def crcB (l : List Int) : BitVec 32 := l.foldl cB (BitVec.allOnes 32)
def crcS (l : List Int) : Int := (((~~~(crcB l)).toNat : Nat) : Int)
theorem crcS_range (l : List Int) : 0 ≤ crcS l ∧ crcS l < 4294967296 := ⟨Int.natCast_nonneg _, bv32 _⟩
theorem tb_bv (b : BitVec 32) : List.getD tab0 (Int.toNat (((b &&& 15#32).toNat : Nat) : Int)) 0 = ((tbB (b &&& 15#32).toNat).toNat : Int) := by
  have hlt : (b &&& 15#32).toNat < 16 := by
    rw [BitVec.toNat_and]
    exact Nat.lt_of_le_of_lt Nat.and_le_right (by decide)
  rw [Int.toNat_natCast]
  generalize (b &&& 15#32).toNat = i at hlt
  have : ∀ i : Fin 16, List.getD tab0 i.val 0 = ((tbB i.val).toNat : Int) := by decide +kernel
  exact this ⟨i, hlt⟩
theorem byte_bv {c : Int} (h0 : 0 ≤ c) (h1 : c < 256) : wr .u32 c = ((BitVec.ofInt 32 c).toNat : Int) := by
  rw [wru32]
  obtain ⟨k, rfl⟩ := Int.eq_ofNat_of_zero_le h0
  rw [BitVec.ofInt_natCast, BitVec.toNat_ofNat]
  omega
theorem half_bv (b : BitVec 32) : bxor .u32 (shrV .u32 ((b.toNat : Nat) : Int) 4) (List.getD tab0 (Int.toNat (band .u32 ((b.toNat : Nat) : Int) 15)) 0) = (((nst b).toNat : Nat) : Int) := by
  have h1 := and_bv b 15#32
  rw [show (((15#32).toNat : Nat) : Int) = 15 from rfl] at h1
  have h2 := shr_bv b 4 (by decide)
  rw [show ((4 : Nat) : Int) = 4 from rfl] at h2
  rw [h1, h2, tb_bv, xor_bv]
  rfl
theorem low_bv (b : BitVec 32) : 0 ≤ band .u32 ((b.toNat : Nat) : Int) 15 ∧ band .u32 ((b.toNat : Nat) : Int) 15 < 16 := by
  have h1 := and_bv b 15#32
  rw [show (((15#32).toNat : Nat) : Int) = 15 from rfl] at h1
  rw [h1]
  have hlt : (b &&& 15#32).toNat < 16 := by
    rw [BitVec.toNat_and]
    exact Nat.lt_of_le_of_lt Nat.and_le_right (by decide)
  omega
theorem crc_l0 (n m : Nat) {l : List Int} (hb : By l) (hl : l.length < 4611686018427387904) : ∀ (d i k : Nat) (s : BitVec 32), i + d = l.length → d < k → crc_Update.l0 n m k (((s.toNat : Nat) : Int), l, (l.length : Int), (i : Int), ()) = some (((((l.drop i).foldl cB s).toNat : Nat) : Int), ())
  | 0, i, 0, s, _, h => absurd h (by decide)
  | d + 1, i, 0, s, _, h => absurd h (by omega)
  | 0, i, k + 1, s, hi, hk => by
    rw [crc_Update.l0_eq, if_neg (by simp; omega), List.drop_eq_nil_of_le (by omega)]
    rfl
  | d + 1, i, k + 1, s, hi, hk => by
    have ha : i < l.length := by omega
    have e : ((i : Int)).toNat = i := by omega
    have hc := hb l[i] (List.getElem_mem ha)
    rw [crc_Update.l0_eq, if_pos (by simp; omega), if_pos (by omega), if_pos (by omega), e, getD_eq ha, byte_bv hc.1 hc.2, xor_bv, half_bv, half_bv, if_pos (low_bv _).1, if_pos (low_bv _).2, if_pos (low_bv _).1, if_pos (low_bv _).2, wr64 (by omega) (by omega), show (i : Int) + 1 = ((i + 1 : Nat) : Int) by omega, crc_l0 n m hb hl d (i + 1) k _ (by omega) (by omega), List.drop_eq_getElem_cons ha]
    rfl
theorem crc_is {n : Nat} {l : List Int} (hb : By l) (hl : l.length < n) (hl' : l.length < 4611686018427387904) : crc_Sum.f n (l, ()) = some (crcS l, ()) := by
  rw [crc_Sum.eq, crc_Update.eq]
  have h0 := not_bv 0#32
  rw [show (((0#32).toNat : Nat) : Int) = 0 from rfl] at h0
  rw [h0]
  have := crc_l0 n n hb hl' l.length 0 n (~~~0#32) (by omega) (by omega)
  rw [show ((0 : Nat) : Int) = 0 from rfl] at this
  rw [this, Option.bind_some, not_bv]
  rfl
theorem bit_bv (b : BitVec 32) : (if ((Int.tmod ((b.toNat : Nat) : Int) 2) == 1) = true then bxor .u32 (shrV .u32 ((b.toNat : Nat) : Int) 1) 3988292384 else shrV .u32 ((b.toNat : Nat) : Int) 1) = (((bst b).toNat : Nat) : Int) := by
  have h2 := shr_bv b 1 (by decide)
  rw [show ((1 : Nat) : Int) = 1 from rfl] at h2
  have h3 := xor_bv (b >>> 1) 0xEDB88320#32
  rw [show (((0xEDB88320#32).toNat : Nat) : Int) = 3988292384 from rfl] at h3
  rw [h2, h3]
  have hb : b.getLsbD 0 = decide (b.toNat % 2 = 1) := by
    rw [BitVec.getLsbD_eq_getElem (by decide), BitVec.getElem_eq_testBit_toNat, Nat.testBit_zero]
  unfold bst
  rw [hb]
  by_cases h : b.toNat % 2 = 1
  · rw [if_pos (by rw [Int.tmod_eq_emod_of_nonneg (by omega)]; simp; omega), if_pos (by simp [h])]
  · rw [if_neg (by rw [Int.tmod_eq_emod_of_nonneg (by omega)]; simp; omega), if_neg (by simp [h])]
def bsts : Nat → BitVec 32 → BitVec 32
  | 0, b => b
  | k + 1, b => bsts k (bst b)
theorem rcrc_l2 (n m : Nat) (l : List Int) (i : Int) : ∀ (d k : Nat) (j : Int) (b : BitVec 32), j + d = 8 → 0 ≤ j → d < k → ref06_Update.l2 n m k (l, ((b.toNat : Nat) : Int), i, j, ()) = some (l, (((bsts d b).toNat : Nat) : Int), i, ())
  | 0, 0, _, _, _, _, h => absurd h (by decide)
  | d + 1, 0, _, _, _, _, h => absurd h (by omega)
  | 0, k + 1, j, b, hj, h0, hk => by
    rw [ref06_Update.l2_eq, if_neg (by simp; omega)]; rfl
  | d + 1, k + 1, j, b, hj, h0, hk => by
    have h1 := bit_bv b
    have hr := rcrc_l2 n m l i d k (j + 1) (bst b) (by omega) (by omega) (by omega)
    rw [ref06_Update.l2_eq, if_pos (by simp; omega), wr64 (by omega) (by omega)]
    split
    · rename_i h; rw [if_pos h] at h1; rw [h1, hr]; rfl
    · rename_i h; rw [if_neg h] at h1; rw [h1, hr]; rfl
theorem rcrc_l0 (n m : Nat) (hm : 8 < m) {l : List Int} (hb : By l) (hl : l.length < 4611686018427387904) : ∀ (d i k : Nat) (s : BitVec 32), i + d = l.length → d < k → ref06_Update.l0 n m k (l, ((s.toNat : Nat) : Int), (i : Int), ()) = some (((((l.drop i).foldl cB s).toNat : Nat) : Int), ())
  | 0, i, 0, s, _, h => absurd h (by decide)
  | d + 1, i, 0, s, _, h => absurd h (by omega)
  | 0, i, k + 1, s, hi, hk => by
    rw [ref06_Update.l0_eq, if_neg (by simp; omega), List.drop_eq_nil_of_le (by omega)]
    rfl
  | d + 1, i, k + 1, s, hi, hk => by
    have ha : i < l.length := by omega
    have e : ((i : Int)).toNat = i := by omega
    have hc := hb l[i] (List.getElem_mem ha)
    have h8 : bsts 8 (s ^^^ BitVec.ofInt 32 l[i]) = cB s l[i] := by
      show bst (bst (bst (bst (bst (bst (bst (bst (s ^^^ BitVec.ofInt 32 l[i])))))))) = _
      rw [nst_eq, nst_eq]; rfl
    rw [ref06_Update.l0_eq, if_pos (by simp; omega), if_pos (by omega), if_pos (by omega), e, getD_eq ha, byte_bv hc.1 hc.2, xor_bv, rcrc_l2 n m l _ 8 m 0 _ (by omega) (by omega) (by omega), Option.bind_some]
    dsimp only
    rw [h8, wr64 (by omega) (by omega), show (i : Int) + 1 = ((i + 1 : Nat) : Int) by omega, rcrc_l0 n m hm hb hl d (i + 1) k _ (by omega) (by omega), List.drop_eq_getElem_cons ha]
    rfl
theorem rcrc_is {n : Nat} (hn : 8 < n) {l : List Int} (hb : By l) (hl : l.length < n) (hl' : l.length < 4611686018427387904) : ref06_Sum.f n (l, ()) = some (crcS l, ()) := by
  rw [ref06_Sum.eq, ref06_Update.eq]
  have h0 := not_bv 0#32
  rw [show (((0#32).toNat : Nat) : Int) = 0 from rfl] at h0
  rw [h0]
  have := rcrc_l0 n n hn hb hl' l.length 0 n (~~~0#32) (by omega) (by omega)
  rw [show ((0 : Nat) : Int) = 0 from rfl] at this
  rw [this, Option.bind_some, not_bv]
  rfl
end Go.Proofs.YtlioalaehkohlaaDoor.Vm

namespace Go.Proofs.YtlioalaehkohlaaDoor.Vm
open Go Go.RowKit
set_option linter.unusedVariables false
set_option linter.unusedSimpArgs false
set_option linter.unusedSectionVars false
set_option maxRecDepth 10000
abbrev Ge := Int × Int × Int × Int × Unit
def rgtP (g : Ge) : Prop := 1 ≤ g.1 ∧ g.1 ≤ 255 ∧ 0 ≤ g.2.1 ∧ g.2.1 ≤ 255 - g.1 ∧ 5 ≤ g.2.2.1 ∧ g.2.2.1 ≤ 16777216 ∧ 1 ≤ g.2.2.2.1 ∧ g.2.2.2.1 ≤ 16777216
instance (g : Ge) : Decidable (rgtP g) := by unfold rgtP; exact inferInstance
theorem right_is (n : Nat) (g : Ge) : stripe_Right.f n (g, ()) = some (decide (rgtP g), ()) := by
  obtain ⟨N, K, S, B, ⟨⟩⟩ := g
  rw [stripe_Right.eq]
  dsimp only
  have hf : ¬ (1 ≤ N ∧ N ≤ 255 ∧ 0 ≤ K ∧ K ≤ 255 - N ∧ 5 ≤ S ∧ S ≤ 16777216 ∧ 1 ≤ B ∧ B ≤ 16777216) → decide (rgtP (N, K, S, B, ())) = false := fun h => decide_eq_false h
  have ht : (1 ≤ N ∧ N ≤ 255 ∧ 0 ≤ K ∧ K ≤ 255 - N ∧ 5 ≤ S ∧ S ≤ 16777216 ∧ 1 ≤ B ∧ B ≤ 16777216) → decide (rgtP (N, K, S, B, ())) = true := fun h => decide_eq_true h
  by_cases h1 : N < 1
  · rw [if_pos (decide_eq_true h1), hf (by omega)]
  rw [if_neg (by simp; omega)]
  by_cases h2 : N > 255
  · rw [if_pos (decide_eq_true h2), hf (by omega)]
  rw [if_neg (by simp; omega)]
  by_cases h3 : K < 0
  · rw [if_pos (decide_eq_true h3), hf (by omega)]
  rw [if_neg (by simp; omega), wr64 (by omega) (by omega)]
  by_cases h4 : K > 255 - N
  · rw [if_pos (decide_eq_true h4), hf (by omega)]
  rw [if_neg (by simp; omega), stripe_sized.eq]
  by_cases h5 : S ≥ 5
  · rw [if_pos (decide_eq_true h5), Option.bind_some]
    dsimp only
    by_cases h6 : S ≤ 16777216
    · rw [if_pos (decide_eq_true h6)]
      by_cases h7 : B ≥ 1
      · rw [if_pos (decide_eq_true h7)]
        congr 2
        by_cases h8 : B ≤ 16777216
        · rw [decide_eq_true h8, ht (by omega)]
        · rw [decide_eq_false h8, hf (by omega)]
      · rw [if_neg (by simp; omega), hf (by omega)]
    · rw [if_neg (by simp; omega), hf (by omega)]
  · rw [if_neg (by simp; omega), Option.bind_some]
    dsimp only
    rw [if_neg (by decide), hf (by omega)]
theorem rright_is (n : Nat) (g : Ge) : ref23_Right.f n (g, ()) = some (decide (rgtP g), ()) := by
  obtain ⟨N, K, S, B, ⟨⟩⟩ := g
  rw [ref23_Right.eq]
  dsimp only
  have hf : ¬ (1 ≤ N ∧ N ≤ 255 ∧ 0 ≤ K ∧ K ≤ 255 - N ∧ 5 ≤ S ∧ S ≤ 16777216 ∧ 1 ≤ B ∧ B ≤ 16777216) → decide (rgtP (N, K, S, B, ())) = false := fun h => decide_eq_false h
  have ht : (1 ≤ N ∧ N ≤ 255 ∧ 0 ≤ K ∧ K ≤ 255 - N ∧ 5 ≤ S ∧ S ≤ 16777216 ∧ 1 ≤ B ∧ B ≤ 16777216) → decide (rgtP (N, K, S, B, ())) = true := fun h => decide_eq_true h
  by_cases h1 : ¬ N ≥ 1
  · rw [if_neg (by simp; omega), hf (by omega)]
  rw [if_pos (by simp; omega)]
  by_cases h2 : ¬ N ≤ 255
  · rw [if_neg (by simp; omega), hf (by omega)]
  rw [if_pos (by simp; omega)]
  by_cases h3 : ¬ K ≥ 0
  · rw [if_neg (by simp; omega), hf (by omega)]
  rw [if_pos (by simp; omega), wr64 (by omega) (by omega)]
  by_cases h4 : ¬ K ≤ 255 - N
  · rw [if_neg (by simp; omega), hf (by omega)]
  rw [if_pos (by simp; omega)]
  by_cases h5 : ¬ S ≥ 5
  · rw [if_neg (by simp; omega), hf (by omega)]
  rw [if_pos (by simp; omega)]
  by_cases h6 : ¬ S ≤ 16777216
  · rw [if_neg (by simp; omega), hf (by omega)]
  rw [if_pos (by simp; omega)]
  by_cases h7 : ¬ B ≥ 1
  · rw [if_neg (by simp; omega), hf (by omega)]
  rw [if_pos (by simp; omega)]
  congr 2
  by_cases h8 : B ≤ 16777216
  · rw [decide_eq_true h8, ht (by omega)]
  · rw [decide_eq_false h8, hf (by omega)]
/-- how many blocks; how long the head -/
def nbN (g : Ge) : Nat := ((8 + g.2.2.1 + g.2.2.2.1 - 1) / g.2.2.2.1).toNat
def cN (g : Ge) : Nat := (g.1 + g.2.1).toNat
def hdN (g : Ge) : Nat := 24 + 4 * (cN g * nbN g)
theorem nb_pos {g : Ge} (h : rgtP g) : ((nbN g : Nat) : Int) = (8 + g.2.2.1 + g.2.2.2.1 - 1) / g.2.2.2.1 ∧ 1 ≤ nbN g ∧ nbN g ≤ 16777224 := by
  obtain ⟨N, K, S, B, ⟨⟩⟩ := g
  unfold rgtP at h
  unfold nbN
  dsimp only at *
  have h1 : 1 ≤ (8 + S + B - 1) / B := (Int.le_ediv_iff_mul_le (by omega)).2 (by omega)
  have h2 : (8 + S + B - 1) / B ≤ 16777224 := by
    have h3 : (8 + S + B - 1) / B < 16777225 := by
      apply Int.ediv_lt_of_lt_mul (by omega)
      have : 16777225 * 1 ≤ 16777225 * B := Int.mul_le_mul_of_nonneg_left (by omega) (by decide)
      omega
    omega
  omega
theorem nb_spec {g : Ge} (h : rgtP g) : (8 + g.2.2.1 ≤ (nbN g : Int) * g.2.2.2.1) ∧ ((nbN g : Int) - 1) * g.2.2.2.1 < 8 + g.2.2.1 := by
  obtain ⟨h1, h2, h3⟩ := nb_pos h
  obtain ⟨N, K, S, B, ⟨⟩⟩ := g
  unfold rgtP at h
  dsimp only at *
  have e := Int.mul_ediv_add_emod (8 + S + B - 1) B
  have m0 := Int.emod_nonneg (8 + S + B - 1) (show B ≠ 0 by omega)
  have m1 := Int.emod_lt_of_pos (8 + S + B - 1) (show 0 < B by omega)
  rw [← h1, Int.mul_comm] at e
  rw [Int.sub_mul]
  omega
theorem cn_nb {g : Ge} (h : rgtP g) : ((cN g : Nat) : Int) = g.1 + g.2.1 ∧ 1 ≤ cN g ∧ cN g ≤ 255 := by
  unfold rgtP at h
  unfold cN
  omega
theorem cnb_le {g : Ge} (h : rgtP g) : cN g * nbN g ≤ 4278192120 ∧ nbN g ≤ cN g * nbN g := by
  obtain ⟨_, h2, h3⟩ := nb_pos h
  obtain ⟨_, h4, h5⟩ := cn_nb h
  constructor
  · exact Nat.le_trans (Nat.mul_le_mul h5 h3) (by decide)
  · exact Nat.le_mul_of_pos_left _ (by omega)
theorem long_is (n : Nat) {g : Ge} (h : rgtP g) : stripe_Long.f n (g, ()) = some (8 + g.2.2.1, ()) := by
  rw [stripe_Long.eq, right_is, Option.bind_some, decide_eq_true h]
  unfold rgtP at h
  dsimp only
  rw [if_neg (by decide), wr64 (by omega) (by omega)]
theorem long_not (n : Nat) {g : Ge} (h : ¬ rgtP g) : stripe_Long.f n (g, ()) = some (0, ()) := by
  rw [stripe_Long.eq, right_is, Option.bind_some, decide_eq_false h]
  dsimp only
  rw [if_pos (by decide)]
theorem blocks_is (n : Nat) {g : Ge} (h : rgtP g) : stripe_Blocks.f n (g, ()) = some (((nbN g : Nat) : Int), ()) := by
  have hh := h
  obtain ⟨e, h2, h3⟩ := nb_pos h
  unfold rgtP at h
  rw [stripe_Blocks.eq, right_is, Option.bind_some, decide_eq_true hh]
  dsimp only
  rw [if_neg (by decide), long_is n hh, Option.bind_some, if_neg (by omega)]
  dsimp only
  rw [wr64 (x := 8 + g.2.2.1 + g.2.2.2.1) (by omega) (by omega), wr64 (x := 8 + g.2.2.1 + g.2.2.2.1 - 1) (by omega) (by omega), Int.tdiv_eq_ediv_of_nonneg (by omega), ← e, wr64 (by omega) (by omega)]
theorem head_is (n : Nat) {g : Ge} (h : rgtP g) : seal_Head.f n (g, ()) = some (((hdN g : Nat) : Int), ()) := by
  obtain ⟨e1, h1, h2⟩ := cn_nb h
  obtain ⟨h3, _⟩ := cnb_le h
  obtain ⟨_, h4, h5⟩ := nb_pos h
  rw [seal_Head.eq, right_is, Option.bind_some, decide_eq_true h]
  dsimp only
  rw [if_neg (by decide), blocks_is n h, Option.bind_some]
  dsimp only
  rw [wr64 (x := g.1 + g.2.1) (by omega) (by omega), ← e1, wr64 (x := 4 * (cN g : Int)) (by omega) (by omega)]
  have e2 : 4 * (cN g : Int) * (nbN g : Int) = ((4 * (cN g * nbN g) : Nat) : Int) := by
    rw [Int.natCast_mul, Int.natCast_mul, Int.mul_assoc]; rfl
  rw [e2, wr64 (x := ((4 * (cN g * nbN g) : Nat) : Int)) (by omega) (by omega), wr64 (x := 20 + ((4 * (cN g * nbN g) : Nat) : Int)) (by omega) (by omega), wr64 (by omega) (by omega)]
  congr 2
  unfold hdN
  omega
theorem head_not (n : Nat) {g : Ge} (h : ¬ rgtP g) : seal_Head.f n (g, ()) = some (0, ()) := by
  rw [seal_Head.eq, right_is, Option.bind_some, decide_eq_false h]
  dsimp only
  rw [if_pos (by decide)]
theorem rblocks_l0 (n m : Nat) {g : Ge} (h : rgtP g) : ∀ (d c k : Nat), c + d = nbN g → d < k → ref23_Blocks.l0 n m k ((g.1, g.2.1, g.2.2.1, g.2.2.2.1, ()), (c : Int), (c : Int) * g.2.2.2.1, ()) = some (((nbN g : Nat) : Int), ())
  | 0, c, 0, _, h => absurd h (by decide)
  | d + 1, c, 0, _, h => absurd h (by omega)
  | 0, c, k + 1, hc, hk => by
    obtain ⟨s1, s2⟩ := nb_spec h
    have hh := h
    unfold rgtP at h
    have hc' : c = nbN g := by omega
    subst hc'
    rw [ref23_Blocks.l0_eq, wr64 (x := 8 + g.2.2.1) (by omega) (by omega), if_neg (by simp; omega)]
  | d + 1, c, k + 1, hc, hk => by
    obtain ⟨s1, s2⟩ := nb_spec h
    obtain ⟨_, _, b3⟩ := nb_pos h
    have hh := h
    unfold rgtP at h
    have h1 : (c : Int) * g.2.2.2.1 ≤ ((nbN g : Int) - 1) * g.2.2.2.1 := Int.mul_le_mul_of_nonneg_right (by omega) (by omega)
    have e1 : ((c : Int) + 1) = ((c + 1 : Nat) : Int) := by omega
    have e2 : (c : Int) * g.2.2.2.1 + g.2.2.2.1 = ((c + 1 : Nat) : Int) * g.2.2.2.1 := by rw [← e1, Int.add_mul, Int.one_mul]
    have h0 : 0 ≤ (c : Int) * g.2.2.2.1 := Int.mul_nonneg (by omega) (by omega)
    rw [ref23_Blocks.l0_eq, wr64 (x := 8 + g.2.2.1) (by omega) (by omega), if_pos (by simp; omega), wr64 (x := (c : Int) + 1) (by omega) (by omega), wr64 (by omega) (by omega), e1, e2]
    exact rblocks_l0 n m hh d (c + 1) k (by omega) (by omega)
theorem rblocks_is {n : Nat} (hn : 16777300 ≤ n) {g : Ge} (h : rgtP g) : ref23_Blocks.f n (g, ()) = some (((nbN g : Nat) : Int), ()) := by
  obtain ⟨_, _, b3⟩ := nb_pos h
  rw [ref23_Blocks.eq]
  have := rblocks_l0 n n h (nbN g) 0 n (by omega) (by omega)
  rw [show ((0 : Nat) : Int) = 0 from rfl, Int.zero_mul] at this
  rw [this, Option.bind_some]
theorem rhead_is {n : Nat} (hn : 16777300 ≤ n) {g : Ge} (h : rgtP g) : ref24_Head.f n (g, ()) = some (((hdN g : Nat) : Int), ()) := by
  obtain ⟨e1, h1, h2⟩ := cn_nb h
  obtain ⟨h3, _⟩ := cnb_le h
  obtain ⟨_, h4, h5⟩ := nb_pos h
  rw [ref24_Head.eq, rblocks_is hn h, Option.bind_some]
  dsimp only
  rw [wr64 (x := g.1 + g.2.1) (by omega) (by omega), ← e1, wr64 (x := 4 * (cN g : Int)) (by omega) (by omega)]
  have e2 : 4 * (cN g : Int) * (nbN g : Int) = ((4 * (cN g * nbN g) : Nat) : Int) := by
    rw [Int.natCast_mul, Int.natCast_mul, Int.mul_assoc]; rfl
  rw [e2, wr64 (x := ((4 * (cN g * nbN g) : Nat) : Int)) (by omega) (by omega), wr64 (by omega) (by omega)]
  congr 2
/-- the number of so many bytes at a place -/
def gt (b : List Int) (i k : Nat) : Int := ge ((b.drop i).take k)
theorem gt_range {b : List Int} (hb : By b) (i k : Nat) : 0 ≤ gt b i k ∧ gt b i k < 256 ^ k := by
  have h1 := ge_lt ((hb.drop i).take k)
  refine ⟨ge_nonneg ((hb.drop i).take k), Int.lt_of_lt_of_le h1 ?_⟩
  have : 256 ^ ((b.drop i).take k).length ≤ 256 ^ k := Nat.pow_le_pow_right (by decide) (by rw [List.length_take]; omega)
  have h2 : (((256 ^ ((b.drop i).take k).length : Nat)) : Int) ≤ ((256 ^ k : Nat) : Int) := Int.ofNat_le.2 this
  simpa using h2
theorem gt2 {b : List Int} (hb : By b) (i : Nat) : 0 ≤ gt b i 2 ∧ gt b i 2 < 65536 := gt_range hb i 2
theorem gt4 {b : List Int} (hb : By b) (i : Nat) : 0 ≤ gt b i 4 ∧ gt b i 4 < 4294967296 := gt_range hb i 4
theorem cut_is (b : List Int) (i k : Nat) : List.drop i (List.take (i + k) b) = (b.drop i).take k := by
  rw [List.drop_take, Nat.add_sub_cancel_left]
theorem bytes_ok {n : Nat} {b : List Int} (hl : b.length ≤ 1000000) {a k : Nat} (h : a + k ≤ b.length) : little_Reader_Bytes.f n ((b, (a : Int), false, ()), (k : Int), ()) = some ((b, ((a + k : Nat) : Int), false, ()), (b.drop a).take k, ()) := by
  have e1 : wr .i64 ((b.length : Int) - (a : Int)) = (b.length : Int) - a := wr64 (by omega) (by omega)
  have e2 : wr .i64 ((a : Int) + (k : Int)) = ((a + k : Nat) : Int) := by rw [wr64 (by omega) (by omega)]; omega
  have e3 : wr .i64 (((a + k : Nat) : Int) - (k : Int)) = (a : Int) := by rw [wr64 (by omega) (by omega)]; omega
  rw [little_Reader_Bytes.eq, if_neg (by decide), little_Reader_Left.eq, Option.bind_some, if_neg (show ¬ (k : Int) < 0 by omega)]
  simp only [e1, e2, e3]
  rw [if_neg (by simp; omega), if_pos (by omega), if_pos (by omega), if_pos (by omega), Int.toNat_natCast, Int.toNat_natCast, cut_is, clone_is n (by rw [List.length_take, List.length_drop]; omega), Option.bind_some]
theorem bytes_short {n : Nat} {b : List Int} (hl : b.length ≤ 1000000) {a k : Nat} (ha : a ≤ b.length) (hk : k ≤ 1000000) (h : b.length < a + k) : little_Reader_Bytes.f n ((b, (a : Int), false, ()), (k : Int), ()) = some ((b, (a : Int), true, ()), [], ()) := by
  have e1 : wr .i64 ((b.length : Int) - (a : Int)) = (b.length : Int) - a := wr64 (by omega) (by omega)
  rw [little_Reader_Bytes.eq, if_neg (by decide), little_Reader_Left.eq, Option.bind_some, if_neg (show ¬ (k : Int) < 0 by omega)]
  simp only [e1]
  rw [if_pos (by simp; omega)]
section
variable {n : Nat} (hn : 1000 ≤ n) {b : List Int} (hb : By b) (hl : b.length ≤ 1000000)
include hn hb hl
theorem num_ok {a k : Nat} (hk : k ≤ 8) (h : a + k ≤ b.length) : little_Reader_Num.f n ((b, (a : Int), false, ()), (k : Int), ()) = some ((b, ((a + k : Nat) : Int), false, ()), gt b a k, ()) := by
  rw [little_Reader_Num.eq, held_le _ (by omega) (by omega), Option.bind_some]
  show (little_Reader_Bytes.f n ((b, (a : Int), false, ()), (k : Int), ())).bind _ = _
  rw [bytes_ok hl h, Option.bind_some]
  show (little_Get.f n ((b.drop a).take k, ())).bind _ = _
  rw [get_is (by omega) ((hb.drop a).take k) (by rw [List.length_take]; omega), Option.bind_some]
  rfl
theorem num_two {a : Nat} (h : a + 2 ≤ b.length) : little_Reader_Num.f n ((b, (a : Int), false, ()), 2, ()) = some ((b, ((a + 2 : Nat) : Int), false, ()), gt b a 2, ()) := num_ok hn hb hl (k := 2) (by decide) h
theorem num_four {a : Nat} (h : a + 4 ≤ b.length) : little_Reader_Num.f n ((b, (a : Int), false, ()), 4, ()) = some ((b, ((a + 4 : Nat) : Int), false, ()), gt b a 4, ()) := num_ok hn hb hl (k := 4) (by decide) h
theorem at_is (i k : Nat) (hk : k ≤ 4) (h : i + k ≤ b.length) : ref24_at.f n (b, (i : Int), (k : Int), ()) = some (gt b i k, ()) := by
  have e : wr .i64 ((i : Int) + (k : Int)) = ((i + k : Nat) : Int) := by rw [wr64 (by omega) (by omega)]; omega
  have hr := gt_range hb i k
  have h4 : (256 : Int) ^ k ≤ 4294967296 := by
    have : 256 ^ k ≤ 256 ^ 4 := Nat.pow_le_pow_right (by decide) hk
    have h2 : (((256 ^ k : Nat)) : Int) ≤ ((256 ^ 4 : Nat) : Int) := Int.ofNat_le.2 this
    simpa using h2
  rw [ref24_at.eq, e, if_pos (by omega), if_pos (by omega), if_pos (by omega), Int.toNat_natCast, Int.toNat_natCast, cut_is, rget_is (by omega) ((hb.drop i).take k) (by rw [List.length_take]; omega), Option.bind_some]
  show some (wr .i64 (gt b i k), ()) = _
  rw [wr64 (by omega) (by omega)]
end
end Go.Proofs.YtlioalaehkohlaaDoor.Vm

namespace Go.Proofs.YtlioalaehkohlaaDoor.Vm
open Go Go.RowKit
set_option linter.unusedVariables false
set_option linter.unusedSimpArgs false
set_option linter.unusedSectionVars false
set_option maxRecDepth 10000
abbrev Se := Ge × Int × List (List Int) × Unit
def zSe : Se := ((0, 0, 0, 0, ()), 0, [], ())
def gB (b : List Int) : Ge := (gt b 6 2, gt b 8 2, gt b 12 4, gt b 16 4, ())
def rowT (b : List Int) (nb i k : Nat) : List Int := (List.range k).map fun j => gt b (20 + 4 * (i * nb + j)) 4
def sumT (b : List Int) (nb i : Nat) : List (List Int) := (List.range i).map fun j => rowT b nb j nb
def parseS (b : List Int) : Se × List Int × Int × Unit :=
  if b.take 4 = [70, 76, 82, 86] then
    if b.length < 20 then (zSe, [], 20, ())
    else if gt b 4 2 = 1 ∧ rgtP (gB b) ∧ gt b 10 2 < gt b 8 2 then
      if b.length < hdN (gB b) then (zSe, [], 20, ())
      else if gt b (hdN (gB b) - 4) 4 ≠ crcS (b.take (hdN (gB b) - 4)) then (zSe, [], 42, ())
      else if (b.length : Int) < (hdN (gB b) : Int) + (8 + gt b 12 4) then (zSe, [], 20, ())
      else if (b.length : Int) > (hdN (gB b) : Int) + (8 + gt b 12 4) then (zSe, [], 22, ())
      else ((gB b, gt b 10 2, sumT b (nbN (gB b)) (cN (gB b)), ()), b.drop (hdN (gB b)), 0, ())
    else (zSe, [], 21, ())
  else (zSe, [], 44, ())
theorem rowT_len (b : List Int) (nb i k : Nat) : (rowT b nb i k).length = k := by simp [rowT]
theorem rowT_succ (b : List Int) (nb i k : Nat) : rowT b nb i k ++ [gt b (20 + 4 * (i * nb + k)) 4] = rowT b nb i (k + 1) := by
  unfold rowT; rw [List.range_succ, List.map_append]; rfl
theorem sumT_len (b : List Int) (nb i : Nat) : (sumT b nb i).length = i := by simp [sumT]
theorem sumT_succ (b : List Int) (nb i : Nat) : sumT b nb i ++ [rowT b nb i nb] = sumT b nb (i + 1) := by
  unfold sumT; rw [List.range_succ, List.map_append]; rfl
theorem u32_gt {b : List Int} (hb : By b) (i : Nat) : wr .u32 (gt b i 4) = gt b i 4 := by
  have := gt4 hb i
  rw [wru32]; omega
theorem pos_is {i nb k : Nat} (h : 20 + 4 * (i * nb + k) ≤ 2000000) : wr .i64 (20 + wr .i64 (4 * wr .i64 (wr .i64 ((i : Int) * (nb : Int)) + (k : Int)))) = ((20 + 4 * (i * nb + k) : Nat) : Int) := by
  have e : (i : Int) * (nb : Int) = ((i * nb : Nat) : Int) := by rw [Int.natCast_mul]
  rw [e, wr64 (x := ((i * nb : Nat) : Int)) (by omega) (by omega), wr64 (x := ((i * nb : Nat) : Int) + (k : Int)) (by omega) (by omega), wr64 (x := 4 * (((i * nb : Nat) : Int) + (k : Int))) (by omega) (by omega), wr64 (by omega) (by omega)]
  omega
section
variable {n : Nat} (hn : 1000 ≤ n) {b : List Int} (hb : By b) (hl : b.length ≤ 1000000)
include hn hb hl
theorem rparse_l2 (m : Nat) (z0 z1 z2 z3 z4 : Int) (z5 : List (List Int)) (s0 s1 s2 s3 s4 : Int) (s5 : List (List Int)) (hd : Int) (nb i : Nat) (hh : 24 + 4 * ((i + 1) * nb) ≤ b.length) : ∀ (d k f : Nat), k + d = nb → d < f →
    ref24_Parse.l2 n m f (b, (z0, z1, z2, z3, z4, z5, ()), (s0, s1, s2, s3, s4, s5, ()), (nb : Int), hd, (i : Int), rowT b nb i k, (k : Int), ()) = some (b, (z0, z1, z2, z3, z4, z5, ()), (s0, s1, s2, s3, s4, s5, ()), (nb : Int), hd, (i : Int), rowT b nb i nb, ())
  | 0, k, 0, _, h => absurd h (by decide)
  | d + 1, k, 0, _, h => absurd h (by omega)
  | 0, k, f + 1, hk, hf => by
    obtain rfl : k = nb := by omega
    rw [ref24_Parse.l2_eq, if_neg (by simp)]
  | d + 1, k, f + 1, hk, hf => by
    have h1 : i * nb + nb = (i + 1) * nb := by rw [Nat.add_mul, Nat.one_mul]
    have ha := at_is hn hb hl (20 + 4 * (i * nb + k)) 4 (by decide) (by omega)
    rw [show ((4 : Nat) : Int) = 4 from rfl] at ha
    rw [ref24_Parse.l2_eq, if_pos (by simp; omega), pos_is (by omega), ha, Option.bind_some]
    dsimp only
    rw [u32_gt hb, if_pos (lim_of (by rw [rowT_len]; simp; omega)), rowT_succ, wr64 (by omega) (by omega), show (k : Int) + 1 = ((k + 1 : Nat) : Int) by omega]
    exact rparse_l2 m z0 z1 z2 z3 z4 z5 s0 s1 s2 s3 s4 s5 hd nb i hh d (k + 1) f (by omega) (by omega)
theorem rparse_l0 (z0 z1 z2 z3 z4 : Int) (z5 : List (List Int)) (s0 s1 s2 s3 s4 : Int) (hd : Int) (nb c : Nat) (hc : (c : Int) = s0 + s1) (hc' : c ≤ 1000) (hh : 24 + 4 * (c * nb) ≤ b.length) (hnb : nb < n) : ∀ (d i f : Nat), i + d = c → d < f →
    ref24_Parse.l0 n n f (b, (z0, z1, z2, z3, z4, z5, ()), (s0, s1, s2, s3, s4, sumT b nb i, ()), (nb : Int), hd, (i : Int), ()) = some (b, (z0, z1, z2, z3, z4, z5, ()), (s0, s1, s2, s3, s4, sumT b nb c, ()), hd, ())
  | 0, k, 0, _, h => absurd h (by decide)
  | d + 1, k, 0, _, h => absurd h (by omega)
  | 0, i, f + 1, hk, hf => by
    obtain rfl : i = c := by omega
    rw [ref24_Parse.l0_eq, ← hc, wr64 (by omega) (by omega), if_neg (by simp)]
  | d + 1, i, f + 1, hk, hf => by
    have h1 : (i + 1) * nb ≤ c * nb := Nat.mul_le_mul_right _ (by omega)
    have h2 := rparse_l2 hn hb hl n z0 z1 z2 z3 z4 z5 s0 s1 s2 s3 s4 (sumT b nb i) hd nb i (by omega) nb 0 n (by omega) (by omega)
    rw [show ((0 : Nat) : Int) = 0 from rfl, show rowT b nb i 0 = [] from rfl] at h2
    rw [ref24_Parse.l0_eq, ← hc, wr64 (by omega) (by omega), if_pos (by simp; omega), h2, Option.bind_some]
    dsimp only
    rw [if_pos (lim_of (by rw [sumT_len]; simp; omega)), sumT_succ, wr64 (by omega) (by omega), show (i : Int) + 1 = ((i + 1 : Nat) : Int) by omega]
    exact rparse_l0 z0 z1 z2 z3 z4 z5 s0 s1 s2 s3 s4 hd nb c hc hc' hh hnb d (i + 1) f (by omega) (by omega)
end
theorem take4 {b : List Int} (h : 4 ≤ b.length) (x0 x1 x2 x3 : Int) : b.take 4 = [x0, x1, x2, x3] ↔ b.getD 0 0 = x0 ∧ b.getD 1 0 = x1 ∧ b.getD 2 0 = x2 ∧ b.getD 3 0 = x3 := by
  match b, h with
  | a0 :: a1 :: a2 :: a3 :: r, _ => simp
theorem rparse_is {n : Nat} (hn : 16777300 ≤ n) {b : List Int} (hb : By b) (hl : b.length ≤ 1000000) : ref24_Parse.f n (b, ()) = some (parseS b) := by
  rw [ref24_Parse.eq]
  unfold parseS
  by_cases h4 : b.length < 4
  · rw [if_pos (decide_eq_true (by omega)), if_neg (fun h => by have := congrArg List.length h; rw [List.length_take] at this; simp at this; omega)]
    rfl
  have t4 := take4 (b := b) (by omega) 70 76 82 86
  rw [if_neg (by simp; omega), if_pos (by decide), if_pos (by omega)]
  by_cases c0 : b.getD 0 0 = 70
  case neg =>
    rw [if_pos (by show (b.getD 0 0 != 70) = true; simpa using c0), if_neg (fun h => c0 (t4.1 h).1)]; rfl
  rw [if_neg (by show ¬ (b.getD 0 0 != 70) = true; simpa using c0), if_pos (by decide), if_pos (by omega)]
  by_cases c1 : b.getD 1 0 = 76
  case neg =>
    rw [if_pos (by show (b.getD 1 0 != 76) = true; simpa using c1), if_neg (fun h => c1 (t4.1 h).2.1)]; rfl
  rw [if_neg (by show ¬ (b.getD 1 0 != 76) = true; simpa using c1), if_pos (by decide), if_pos (by omega)]
  by_cases c2 : b.getD 2 0 = 82
  case neg =>
    rw [if_pos (by show (b.getD 2 0 != 82) = true; simpa using c2), if_neg (fun h => c2 (t4.1 h).2.2.1)]; rfl
  rw [if_neg (by show ¬ (b.getD 2 0 != 82) = true; simpa using c2), if_pos (by decide), if_pos (by omega)]
  by_cases c3 : b.getD 3 0 = 86
  case neg =>
    rw [if_pos (by show (b.getD 3 0 != 86) = true; simpa using c3), if_neg (fun h => c3 (t4.1 h).2.2.2)]; rfl
  rw [if_neg (by show ¬ (b.getD 3 0 != 86) = true; simpa using c3), if_pos (c := b.take 4 = _) (t4.2 ⟨c0, c1, c2, c3⟩)]
  by_cases h20 : b.length < 20
  · rw [if_pos (decide_eq_true (by omega)), if_pos h20]; rfl
  rw [if_neg (by simp; omega), if_neg h20]
  have a6 := at_is (n := n) (by omega) hb hl 6 2 (by decide) (by omega)
  have a8 := at_is (n := n) (by omega) hb hl 8 2 (by decide) (by omega)
  have a12 := at_is (n := n) (by omega) hb hl 12 4 (by decide) (by omega)
  have a16 := at_is (n := n) (by omega) hb hl 16 4 (by decide) (by omega)
  have a10 := at_is (n := n) (by omega) hb hl 10 2 (by decide) (by omega)
  have a4 := at_is (n := n) (by omega) hb hl 4 2 (by decide) (by omega)
  refine (congrArg (Option.bind · _) a6).trans ?_
  rw [Option.bind_some]
  refine (congrArg (Option.bind · _) a8).trans ?_
  rw [Option.bind_some]
  refine (congrArg (Option.bind · _) a12).trans ?_
  rw [Option.bind_some]
  refine (congrArg (Option.bind · _) a16).trans ?_
  rw [Option.bind_some]
  refine (congrArg (Option.bind · _) a10).trans ?_
  rw [Option.bind_some]
  refine (congrArg (Option.bind · _) a4).trans ?_
  rw [Option.bind_some]
  dsimp only
  by_cases hv : gt b 4 2 = 1
  case neg =>
    rw [if_pos (by simpa using hv), if_neg (fun h => hv h.1)]; rfl
  rw [if_neg (by simpa using hv)]
  refine (congrArg (Option.bind · _) (rright_is n (gB b))).trans ?_
  rw [Option.bind_some]
  dsimp only
  by_cases hg : rgtP (gB b)
  case neg =>
    rw [decide_eq_false hg, if_pos (by decide), if_neg (fun h => hg h.2.1)]; rfl
  rw [decide_eq_true hg, if_neg (by decide)]
  by_cases hi : gt b 10 2 ≥ gt b 8 2
  · rw [if_pos (decide_eq_true hi), if_neg (fun h => by omega)]; rfl
  rw [if_neg (by simpa using hi), if_pos ⟨hv, hg, by omega⟩]
  refine (congrArg (Option.bind · _) (rblocks_is hn hg)).trans ?_
  rw [Option.bind_some]
  refine (congrArg (Option.bind · _) (rhead_is hn hg)).trans ?_
  rw [Option.bind_some]
  dsimp only
  by_cases hh : b.length < hdN (gB b)
  · rw [if_pos (decide_eq_true (by omega)), if_pos hh]; rfl
  rw [if_neg (by simp; omega), if_neg hh]
  obtain ⟨k1, k2, k3⟩ := cn_nb hg
  obtain ⟨_, k4, k5⟩ := nb_pos hg
  have hhd : hdN (gB b) = 24 + 4 * (cN (gB b) * nbN (gB b)) := rfl
  have hl0 := rparse_l0 (n := n) (by omega) hb hl 0 0 0 0 0 [] (gt b 6 2) (gt b 8 2) (gt b 12 4) (gt b 16 4) (gt b 10 2) (hdN (gB b) : Int) (nbN (gB b)) (cN (gB b)) k1 (by omega) (by omega) (by omega) (cN (gB b)) 0 n (by omega) (by omega)
  rw [show ((0 : Nat) : Int) = 0 from rfl, show sumT b (nbN (gB b)) 0 = [] from rfl] at hl0
  refine (congrArg (Option.bind · _) hl0).trans ?_
  rw [Option.bind_some]
  dsimp only
  have ah := at_is (n := n) (by omega) hb hl (hdN (gB b) - 4) 4 (by decide) (by omega)
  have eh : wr .i64 ((hdN (gB b) : Int) - 4) = ((hdN (gB b) - 4 : Nat) : Int) := by rw [wr64 (by omega) (by omega)]; omega
  rw [eh, if_pos (by omega), if_pos (by omega)]
  refine (congrArg (Option.bind · _) ah).trans ?_
  rw [Option.bind_some]
  dsimp only
  rw [Int.toNat_natCast, List.drop_zero]
  refine (congrArg (Option.bind · _) (rcrc_is (n := n) (by omega) (hb.take _) (by rw [List.length_take]; omega) (by rw [List.length_take]; omega))).trans ?_
  rw [Option.bind_some]
  dsimp only
  rw [u32_gt hb]
  by_cases hs : gt b (hdN (gB b) - 4) 4 = crcS (b.take (hdN (gB b) - 4))
  case neg =>
    rw [if_pos (by simpa using hs), if_pos hs]; rfl
  have hS := gt4 hb 12
  rw [if_neg (by simpa using hs), if_neg (c := gt b (hdN (gB b) - 4) 4 ≠ crcS (b.take (hdN (gB b) - 4))) (fun h => h hs)]
  have e1 : wr .i64 ((hdN (gB b) : Int) + 8) = (hdN (gB b) : Int) + 8 := wr64 (by omega) (by omega)
  have e2 : wr .i64 ((hdN (gB b) : Int) + 8 + gt b 12 4) = (hdN (gB b) : Int) + (8 + gt b 12 4) := by rw [wr64 (by omega) (by omega)]; omega
  rw [e1, e2]
  by_cases hx : (b.length : Int) < (hdN (gB b) : Int) + (8 + gt b 12 4)
  · rw [if_pos (decide_eq_true hx), if_pos hx]; rfl
  rw [if_neg (by simpa using hx), if_neg hx]
  by_cases hy : (b.length : Int) > (hdN (gB b) : Int) + (8 + gt b 12 4)
  · rw [if_pos (decide_eq_true hy), if_pos hy]; rfl
  rw [if_neg (by simpa using hy), if_neg hy]
  rw [if_pos (Int.natCast_nonneg _), if_pos (show ((hdN (gB b) : Nat) : Int) ≤ ((List.length b : Nat) : Int) by omega), List.take_length, Int.toNat_natCast]
  rfl
end Go.Proofs.YtlioalaehkohlaaDoor.Vm

namespace Go.Proofs.YtlioalaehkohlaaDoor.Vm
open Go Go.RowKit
set_option linter.unusedVariables false
set_option linter.unusedSimpArgs false
set_option linter.unusedSectionVars false
set_option maxRecDepth 10000
theorem bytes_str {l : List Int} (h : By l) : sbytes (strOf l) = l := by
  unfold strOf sbytes
  rw [show (List.map (fun n : Int => UInt8.ofNat n.toNat) l).toArray.toList = List.map (fun n : Int => UInt8.ofNat n.toNat) l from rfl, List.map_map]
  conv => rhs; rw [← List.map_id l]
  refine List.map_congr_left (fun x hx => ?_)
  have := h x hx
  show ((UInt8.ofNat x.toNat).toNat : Int) = x
  rw [UInt8.toNat_ofNat', show x.toNat % 2 ^ 8 = x.toNat by omega]
  omega
theorem toList_inj {a b : ByteArray} (h : a.toList = b.toList) : a = b := by
  rw [ByteArray.toList_eq, ByteArray.toList_eq] at h
  cases a; cases b
  congr 1
  exact Array.toList_inj.1 h
theorem sign_iff {l : List Int} (h : By l) : (ByteArray.toList (strOf l) == ByteArray.toList (ByteArray.mk #[70, 76, 82, 86])) = decide (l = [70, 76, 82, 86]) := by
  by_cases hl : l = [70, 76, 82, 86]
  · subst hl
    rw [decide_eq_true rfl, beq_iff_eq]
    rfl
  · rw [decide_eq_false hl]
    rw [beq_eq_false_iff_ne]
    intro he
    have h2 := toList_inj he
    have h3 := bytes_str h
    rw [h2] at h3
    exact hl (h3.symm.trans rfl)
theorem i64_gt2 {b : List Int} (hb : By b) (i : Nat) : wr .i64 (gt b i 2) = gt b i 2 := by
  have := gt2 hb i
  exact wr64 (by omega) (by omega)
theorem i64_gt4 {b : List Int} (hb : By b) (i : Nat) : wr .i64 (gt b i 4) = gt b i 4 := by
  have := gt4 hb i
  exact wr64 (by omega) (by omega)
theorem set_rep {α : Type} (l : List α) (d : Nat) (z v : α) {k : Nat} (hk : l.length = k) : List.set (l ++ List.replicate (d + 1) z) k v = (l ++ [v]) ++ List.replicate d z := by
  subst hk
  rw [List.replicate_succ, List.set_append_right _ _ (Nat.le_refl _), Nat.sub_self, List.set_cons_zero, List.append_assoc]
  rfl
section
variable {n : Nat} (hn : 1000 ≤ n) {b : List Int} (hb : By b) (hl : b.length ≤ 1000000)
include hn hb hl
theorem sums_l2 (m : Nat) (sm : List (List Int)) (c15 c16 : Int) (nb i : Nat) (hh : 24 + 4 * ((i + 1) * nb) ≤ b.length) : ∀ (d k f : Nat), k + d = nb → d < f →
    seal_sums.l2 n m f ((b, ((20 + 4 * (i * nb + k) : Nat) : Int), false, ()), sm, (nb : Int), rowT b nb i k ++ List.replicate d 0, c15, c16, (nb : Int), (k : Int), ()) = some ((b, ((20 + 4 * ((i + 1) * nb) : Nat) : Int), false, ()), sm, (nb : Int), rowT b nb i nb, c15, c16, ())
  | 0, k, 0, _, h => absurd h (by decide)
  | d + 1, k, 0, _, h => absurd h (by omega)
  | 0, k, f + 1, hk, hf => by
    obtain rfl : k = nb := by omega
    rw [seal_sums.l2_eq, if_neg (by simp), show i * k + k = (i + 1) * k by rw [Nat.add_mul, Nat.one_mul]]
    simp
  | d + 1, k, f + 1, hk, hf => by
    have h1 : i * nb + nb = (i + 1) * nb := by rw [Nat.add_mul, Nat.one_mul]
    have ha := num_four hn hb hl (a := 20 + 4 * (i * nb + k)) (by omega)
    rw [seal_sums.l2_eq, if_pos (by simp; omega), ha, Option.bind_some]
    dsimp only
    rw [if_pos (by omega), if_pos (by rw [List.length_append, rowT_len, List.length_replicate]; omega), Int.toNat_natCast, u32_gt hb, set_rep _ _ _ _ (rowT_len b nb i k), rowT_succ, wr64 (by omega) (by omega), show (k : Int) + 1 = ((k + 1 : Nat) : Int) by omega, show 20 + 4 * (i * nb + k) + 4 = 20 + 4 * (i * nb + (k + 1)) by omega]
    exact sums_l2 m sm c15 c16 nb i hh d (k + 1) f (by omega) (by omega)
theorem sums_l0 (nb c : Nat) (hc' : c ≤ 1000) (hh : 24 + 4 * (c * nb) ≤ b.length) (hnb : nb < n) (hnb' : nb ≤ 1000000) : ∀ (d i f : Nat), i + d = c → d < f →
    seal_sums.l0 n n f ((b, ((20 + 4 * (i * nb) : Nat) : Int), false, ()), sumT b nb i, (nb : Int), (c : Int), (i : Int), ()) = some ((b, ((20 + 4 * (c * nb) : Nat) : Int), false, ()), sumT b nb c, ())
  | 0, k, 0, _, h => absurd h (by decide)
  | d + 1, k, 0, _, h => absurd h (by omega)
  | 0, i, f + 1, hk, hf => by
    obtain rfl : i = c := by omega
    rw [seal_sums.l0_eq, if_neg (by simp)]
  | d + 1, i, f + 1, hk, hf => by
    have h1 : (i + 1) * nb ≤ c * nb := Nat.mul_le_mul_right _ (by omega)
    have h2 := sums_l2 hn hb hl n (sumT b nb i) (c : Int) (i : Int) nb i (by omega) nb 0 n (by omega) (by omega)
    rw [show ((0 : Nat) : Int) = 0 from rfl, show rowT b nb i 0 = [] from rfl, List.nil_append, Nat.add_zero] at h2
    rw [seal_sums.l0_eq, if_pos (by simp; omega), if_pos (by omega), if_pos (lim_of (by omega)), Int.toNat_natCast, List.length_replicate, h2, Option.bind_some]
    dsimp only
    rw [if_pos (lim_of (by rw [sumT_len]; simp; omega)), sumT_succ, wr64 (by omega) (by omega), show (i : Int) + 1 = ((i + 1 : Nat) : Int) by omega]
    exact sums_l0 nb c hc' hh hnb hnb' d (i + 1) f (by omega) (by omega)
theorem sums_is {g : Ge} (hg : rgtP g) (hh : 24 + 4 * (cN g * nbN g) ≤ b.length) (hnn : b.length < n) : seal_sums.f n ((b, 20, false, ()), g, ()) = some ((b, ((20 + 4 * (cN g * nbN g) : Nat) : Int), false, ()), sumT b (nbN g) (cN g), ()) := by
  obtain ⟨k1, k2, k3⟩ := cn_nb hg
  obtain ⟨_, h4⟩ := cnb_le hg
  rw [seal_sums.eq, blocks_is n hg, Option.bind_some]
  dsimp only
  rw [← k1, wr64 (by omega) (by omega)]
  have h := sums_l0 hn hb hl (nbN g) (cN g) (by omega) hh (by omega) (by omega) (cN g) 0 n (by omega) (by omega)
  rw [show ((0 : Nat) : Int) = 0 from rfl, Nat.zero_mul, show sumT b (nbN g) 0 = [] from rfl] at h
  refine (congrArg (Option.bind · _) h).trans ?_
  rw [Option.bind_some]
theorem rest_is {a : Nat} (h : a ≤ b.length) : little_Reader_Rest.f n ((b, (a : Int), false, ()), ()) = some ((b, (b.length : Int), false, ()), b.drop a, ()) := by
  rw [little_Reader_Rest.eq, little_Reader_Left.eq, Option.bind_some]
  dsimp only
  rw [wr64 (by omega) (by omega), show (b.length : Int) - (a : Int) = ((b.length - a : Nat) : Int) by omega, bytes_ok hl (by omega), Option.bind_some]
  dsimp only
  rw [List.take_of_length_le (by rw [List.length_drop]; omega), show a + (b.length - a) = b.length by omega]
end
theorem parse_is {n : Nat} (hn : 1000000 < n) {b : List Int} (hb : By b) (hl : b.length ≤ 1000000) : seal_Parse.f n (b, ()) = some (parseS b) := by
  rw [seal_Parse.eq, little_Read.eq, Option.bind_some]
  dsimp only
  unfold parseS
  by_cases h4 : b.length < 4
  · have h := bytes_short (n := n) hl (a := 0) (k := 4) (by omega) (by omega) (by omega)
    refine (congrArg (Option.bind · _) h).trans ?_
    rw [Option.bind_some]
    dsimp only
    rw [sign_iff By.nil, if_pos (by decide), if_neg (fun h => by have := congrArg List.length h; rw [List.length_take] at this; simp at this; omega)]
    rfl
  have h := bytes_ok (n := n) hl (a := 0) (k := 4) (by omega)
  refine (congrArg (Option.bind · _) h).trans ?_
  rw [Option.bind_some]
  dsimp only
  rw [List.drop_zero, sign_iff (hb.take 4)]
  by_cases hs : b.take 4 = [70, 76, 82, 86]
  case neg =>
    rw [decide_eq_false hs, if_pos (by decide), if_neg hs]; rfl
  rw [decide_eq_true hs, if_neg (by decide), if_pos hs]
  by_cases h20 : b.length < 20
  · rw [if_pos (decide_eq_true (by omega)), if_pos h20]; rfl
  rw [if_neg (by simp; omega), if_neg h20]
  have hn' : 1000 ≤ n := by omega
  refine (congrArg (Option.bind · _) (num_two hn' hb hl (a := 4) (by omega))).trans ?_
  rw [Option.bind_some]
  refine (congrArg (Option.bind · _) (num_two hn' hb hl (a := 6) (by omega))).trans ?_
  rw [Option.bind_some]
  refine (congrArg (Option.bind · _) (num_two hn' hb hl (a := 8) (by omega))).trans ?_
  rw [Option.bind_some]
  refine (congrArg (Option.bind · _) (num_two hn' hb hl (a := 10) (by omega))).trans ?_
  rw [Option.bind_some]
  refine (congrArg (Option.bind · _) (num_four hn' hb hl (a := 12) (by omega))).trans ?_
  rw [Option.bind_some]
  refine (congrArg (Option.bind · _) (num_four hn' hb hl (a := 16) (by omega))).trans ?_
  rw [Option.bind_some]
  dsimp only
  rw [i64_gt2 hb, i64_gt2 hb, i64_gt2 hb, i64_gt4 hb, i64_gt4 hb]
  by_cases hg : rgtP (gB b)
  case neg =>
    refine (congrArg (Option.bind · _) (head_not n hg)).trans ?_
    rw [Option.bind_some]
    dsimp only
    have hx : ¬ (gt b 4 2 = 1 ∧ rgtP (gB b) ∧ gt b 10 2 < gt b 8 2) := fun h => hg h.2.1
    rw [if_neg hx]
    by_cases hv : gt b 4 2 = 1
    · rw [if_neg (c := (gt b 4 2 != 1) = true) (by simpa using hv), if_pos (show ((0 : Int) == 0) = true from rfl), Option.bind_some]; rfl
    · rw [if_pos (c := (gt b 4 2 != 1) = true) (by simpa using hv), Option.bind_some]; rfl
  have hhd : hdN (gB b) = 24 + 4 * (cN (gB b) * nbN (gB b)) := rfl
  refine (congrArg (Option.bind · _) (head_is n hg)).trans ?_
  rw [Option.bind_some]
  dsimp only
  by_cases hv : gt b 4 2 = 1
  case neg =>
    rw [if_pos (c := (gt b 4 2 != 1) = true) (by simpa using hv), Option.bind_some, if_neg (c := gt b 4 2 = 1 ∧ rgtP (gB b) ∧ gt b 10 2 < gt b 8 2) (fun h => hv h.1)]; rfl
  rw [if_neg (c := (gt b 4 2 != 1) = true) (by simpa using hv), if_neg (c := (((hdN (gB b) : Nat) : Int) == 0) = true) (by simp; omega), Option.bind_some]
  dsimp only
  by_cases hi : gt b 10 2 ≥ gt b 8 2
  · have hC : ¬ (gt b 4 2 = 1 ∧ rgtP (gB b) ∧ gt b 10 2 < gt b 8 2) := fun h => by omega
    rw [if_pos (decide_eq_true hi), if_neg hC]; rfl
  have hC : gt b 4 2 = 1 ∧ rgtP (gB b) ∧ gt b 10 2 < gt b 8 2 := ⟨hv, hg, by omega⟩
  rw [if_neg (c := decide (gt b 10 2 ≥ gt b 8 2) = true) (by simpa using hi), if_pos hC]
  by_cases hh : b.length < hdN (gB b)
  · rw [if_pos (decide_eq_true (by omega)), if_pos hh]; rfl
  rw [if_neg (c := decide (((List.length b : Nat) : Int) < ((hdN (gB b) : Nat) : Int)) = true) (by simp; omega), if_neg hh]
  obtain ⟨k1, k2, k3⟩ := cn_nb hg
  obtain ⟨_, k4, k5⟩ := nb_pos hg
  refine (congrArg (Option.bind · _) (sums_is hn' hb hl hg (by omega) (by omega))).trans ?_
  rw [Option.bind_some]
  refine (congrArg (Option.bind · _) (num_four hn' hb hl (a := 20 + 4 * (cN (gB b) * nbN (gB b))) (by omega))).trans ?_
  rw [Option.bind_some]
  refine (congrArg (Option.bind · _) (long_is n hg)).trans ?_
  rw [Option.bind_some]
  dsimp only
  have eh : wr .i64 ((hdN (gB b) : Int) - 4) = ((hdN (gB b) - 4 : Nat) : Int) := by rw [wr64 (by omega) (by omega)]; omega
  rw [eh, if_pos (Int.natCast_nonneg _), if_pos (show ((hdN (gB b) - 4 : Nat) : Int) ≤ ((List.length b : Nat) : Int) by omega), Int.toNat_natCast, List.drop_zero]
  refine (congrArg (Option.bind · _) (crc_is (n := n) (hb.take _) (by rw [List.length_take]; omega) (by rw [List.length_take]; omega))).trans ?_
  rw [Option.bind_some]
  dsimp only
  rw [u32_gt hb, show 20 + 4 * (cN (gB b) * nbN (gB b)) = hdN (gB b) - 4 by omega]
  by_cases hc : gt b (hdN (gB b) - 4) 4 = crcS (b.take (hdN (gB b) - 4))
  case neg =>
    rw [if_pos (by simpa using hc), if_pos hc]; rfl
  have hS := gt4 hb 12
  have hSv : (gB b).2.2.1 = gt b 12 4 := rfl
  rw [if_neg (c := (gt b (hdN (gB b) - 4) 4 != crcS (b.take (hdN (gB b) - 4))) = true) (by simpa using hc), if_neg (c := gt b (hdN (gB b) - 4) 4 ≠ crcS (b.take (hdN (gB b) - 4))) (fun h => h hc), hSv]
  have e2 : wr .i64 ((hdN (gB b) : Int) + (8 + gt b 12 4)) = (hdN (gB b) : Int) + (8 + gt b 12 4) := wr64 (by omega) (by omega)
  rw [e2]
  by_cases hx : (b.length : Int) < (hdN (gB b) : Int) + (8 + gt b 12 4)
  · rw [if_pos (decide_eq_true hx), if_pos hx]; rfl
  rw [if_neg (c := decide ((b.length : Int) < (hdN (gB b) : Int) + (8 + gt b 12 4)) = true) (by simpa using hx), if_neg hx]
  by_cases hy : (b.length : Int) > (hdN (gB b) : Int) + (8 + gt b 12 4)
  · rw [if_pos (decide_eq_true hy), if_pos hy]; rfl
  rw [if_neg (c := decide ((b.length : Int) > (hdN (gB b) : Int) + (8 + gt b 12 4)) = true) (by simpa using hy), if_neg hy]
  rw [show hdN (gB b) - 4 + 4 = hdN (gB b) by omega]
  refine (congrArg (Option.bind · _) (rest_is hn' hb hl (a := hdN (gB b)) (by omega))).trans ?_
  rw [Option.bind_some]
  rfl
end Go.Proofs.YtlioalaehkohlaaDoor.Vm

namespace Go.Proofs.YtlioalaehkohlaaDoor.Vm
open Go Go.RowKit
set_option linter.unusedVariables false
set_option linter.unusedSimpArgs false
set_option linter.unusedSectionVars false
set_option maxRecDepth 10000
abbrev Sl := Bool × List Int × Unit
def SlOk (t : List Sl) : Prop := ∀ s ∈ t, By s.2.1 ∧ s.2.1.length ≤ 1000000
def zSl : Sl := (false, [], ())
theorem slD {t : List Sl} {i : Nat} (h : i < t.length) : t.getD i zSl = t[i] := by
  rw [List.getD_eq_getElem?_getD, List.getElem?_eq_getElem h]; rfl
theorem parse_rng {b : List Int} (hb : By b) : (0 ≤ (parseS b).1.1.1 ∧ (parseS b).1.1.1 < 65536) ∧ 0 ≤ (parseS b).1.2.1 ∧ (parseS b).1.2.1 < 65536 := by
  have h6 := gt2 hb 6
  have h10 := gt2 hb 10
  unfold parseS
  repeat' split
  all_goals first
    | exact ⟨⟨by decide, by decide⟩, by decide, by decide⟩
    | exact ⟨h6, h10⟩
def foundB (s : Sl) (i : Nat) : Prop := s.1 = true ∧ (parseS s.2.1).2.2.1 = 0 ∧ (parseS s.2.1).1.1.1 + (parseS s.2.1).1.2.1 = (i : Int)
instance (s : Sl) (i : Nat) : Decidable (foundB s i) := by unfold foundB; exact inferInstance
def findL : Nat → List Sl → Option Se
  | _, [] => none
  | i, s :: r => if foundB s i then some (parseS s.2.1).1 else findL (i + 1) r
def findA (t : List Sl) : Se × Bool × Unit := match findL 0 t with
  | some s => (s, true, ())
  | none => (zSe, false, ())
def findW (z : Int × Int × Int × Int × Int × List (List Int) × Unit) : Option Se → (Int × Int × Int × Int × Int × List (List Int) × Unit) × Bool × Unit ⊕ (Int × Int × Int × Int × Int × List (List Int) × Unit) × Unit
  | some s => .inl ((s.1.1, s.1.2.1, s.1.2.2.1, s.1.2.2.2.1, s.2.1, s.2.2.1, ()), true, ())
  | none => .inr (z, ())
section
variable {n : Nat} (hn : 16777300 ≤ n) {t : List Sl} (ht : SlOk t) (hl : t.length ≤ 1000000)
include hn ht hl
theorem find_l0 (m : Nat) (z : Int × Int × Int × Int × Int × List (List Int) × Unit) : ∀ (d i k : Nat), i + d = t.length → d < k → damage_Find.l0 n m k (z, t, (t.length : Int), (i : Int), ()) = some (findW z (findL i (t.drop i)))
  | 0, i, 0, _, h => absurd h (by decide)
  | d + 1, i, 0, _, h => absurd h (by omega)
  | 0, i, k + 1, hi, hk => by
    obtain ⟨z0, z1, z2, z3, z4, z5, ⟨⟩⟩ := z
    rw [damage_Find.l0_eq, if_neg (by simp; omega), List.drop_eq_nil_of_le (by omega)]
    rfl
  | d + 1, i, k + 1, hi, hk => by
    have ha : i < t.length := by omega
    obtain ⟨hb, hlb⟩ := ht t[i] (List.getElem_mem ha)
    obtain ⟨r1, r2⟩ := parse_rng hb
    have ih := find_l0 m z d (i + 1) k (by omega) (by omega)
    obtain ⟨z0, z1, z2, z3, z4, z5, ⟨⟩⟩ := z
    have e1 : wr .i64 ((i : Int) + 1) = ((i + 1 : Nat) : Int) := by rw [wr64 (by omega) (by omega)]; omega
    rw [damage_Find.l0_eq, if_pos (by simp; omega), if_pos (by omega), if_pos (by omega), Int.toNat_natCast, e1, ih, List.drop_eq_getElem_cons ha]
    rw [show t.getD i (false, ([], ())) = t[i] from slD ha]
    rw [show findL i (t[i] :: t.drop (i + 1)) = (if foundB t[i] i then some (parseS t[i].2.1).1 else findL (i + 1) (t.drop (i + 1))) from rfl]
    by_cases h1 : t[i].1 = true
    case neg =>
      rw [if_pos (by simpa using h1), if_neg (fun h => h1 h.1)]
    rw [if_neg (by simpa using h1), parse_is (by omega) hb hlb, Option.bind_some]
    dsimp only
    by_cases h2 : (parseS t[i].2.1).2.2.1 = 0
    case neg =>
      rw [if_neg (c := ((parseS t[i].2.1).2.2.1 == 0) = true) (by simpa using h2), Option.bind_some, if_neg (c := foundB t[i] i) (fun h => h2 h.2.1)]
      dsimp only
      rw [if_neg (by decide), e1, ih]
    rw [if_pos (c := ((parseS t[i].2.1).2.2.1 == 0) = true) (by simpa using h2), Option.bind_some]
    dsimp only
    rw [wr64 (x := (parseS t[i].2.1).1.1.1 + (parseS t[i].2.1).1.2.1) (by omega) (by omega)]
    by_cases h3 : (parseS t[i].2.1).1.1.1 + (parseS t[i].2.1).1.2.1 = (i : Int)
    · rw [if_pos (by simpa using h3), if_pos (c := foundB t[i] i) ⟨h1, h2, h3⟩]
      rfl
    · rw [if_neg (by simpa using h3), if_neg (c := foundB t[i] i) (fun h => h3 h.2.2), e1, ih]
theorem find_is (hlt : t.length < n) : damage_Find.f n (t, ()) = some (findA t) := by
  rw [damage_Find.eq]
  have h := find_l0 hn ht hl n (0, 0, 0, 0, 0, [], ()) t.length 0 n (by omega) (by omega)
  rw [show ((0 : Nat) : Int) = 0 from rfl, List.drop_zero] at h
  rw [h, Option.bind_some]
  unfold findA
  cases findL 0 t <;> rfl
theorem rfind_l0 (m : Nat) (z : Int × Int × Int × Int × Int × List (List Int) × Unit) : ∀ (d i k : Nat), i + d = t.length → d < k → ref25_Find.l0 n m k (t, z, (i : Int), ()) = some (findW z (findL i (t.drop i)))
  | 0, i, 0, _, h => absurd h (by decide)
  | d + 1, i, 0, _, h => absurd h (by omega)
  | 0, i, k + 1, hi, hk => by
    obtain ⟨z0, z1, z2, z3, z4, z5, ⟨⟩⟩ := z
    rw [ref25_Find.l0_eq, if_neg (by simp; omega), List.drop_eq_nil_of_le (by omega)]
    rfl
  | d + 1, i, k + 1, hi, hk => by
    have ha : i < t.length := by omega
    obtain ⟨hb, hlb⟩ := ht t[i] (List.getElem_mem ha)
    obtain ⟨r1, r2⟩ := parse_rng hb
    have ih := rfind_l0 m z d (i + 1) k (by omega) (by omega)
    obtain ⟨z0, z1, z2, z3, z4, z5, ⟨⟩⟩ := z
    have e1 : wr .i64 ((i : Int) + 1) = ((i + 1 : Nat) : Int) := by rw [wr64 (by omega) (by omega)]; omega
    rw [ref25_Find.l0_eq, if_pos (by simp; omega), if_pos (by omega), if_pos (by omega), Int.toNat_natCast, e1, ih, List.drop_eq_getElem_cons ha]
    rw [show t.getD i (false, ([], ())) = t[i] from slD ha]
    rw [show findL i (t[i] :: t.drop (i + 1)) = (if foundB t[i] i then some (parseS t[i].2.1).1 else findL (i + 1) (t.drop (i + 1))) from rfl]
    by_cases h1 : t[i].1 = true
    case neg =>
      rw [if_neg (c := t[i].1 = true) h1, if_neg (c := foundB t[i] i) (fun h => h1 h.1)]
    rw [if_pos (c := t[i].1 = true) h1, if_pos (by omega), if_pos (by omega), rparse_is hn hb hlb, Option.bind_some]
    dsimp only
    by_cases h2 : (parseS t[i].2.1).2.2.1 = 0
    case neg =>
      rw [if_neg (c := ((parseS t[i].2.1).2.2.1 == 0) = true) (by simpa using h2), if_neg (c := foundB t[i] i) (fun h => h2 h.2.1)]
    rw [if_pos (c := ((parseS t[i].2.1).2.2.1 == 0) = true) (by simpa using h2)]
    rw [wr64 (x := (parseS t[i].2.1).1.1.1 + (parseS t[i].2.1).1.2.1) (by omega) (by omega)]
    by_cases h3 : (parseS t[i].2.1).1.1.1 + (parseS t[i].2.1).1.2.1 = (i : Int)
    · rw [if_pos (c := ((parseS t[i].2.1).1.1.1 + (parseS t[i].2.1).1.2.1 == (i : Int)) = true) (by simpa using h3), if_pos (c := foundB t[i] i) ⟨h1, h2, h3⟩]
      rfl
    · rw [if_neg (c := ((parseS t[i].2.1).1.1.1 + (parseS t[i].2.1).1.2.1 == (i : Int)) = true) (by simpa using h3), if_neg (c := foundB t[i] i) (fun h => h3 h.2.2)]
theorem rfind_is (hlt : t.length < n) : ref25_Find.f n (t, ()) = some (findA t) := by
  rw [ref25_Find.eq]
  have h := rfind_l0 hn ht hl n (0, 0, 0, 0, 0, [], ()) t.length 0 n (by omega) (by omega)
  rw [show ((0 : Nat) : Int) = 0 from rfl, List.drop_zero] at h
  rw [h, Option.bind_some]
  unfold findA
  cases findL 0 t <;> rfl
end
/-- how many rows don't know a place -/
def unk (c : List Bool) (k : Nat) : Bool := !(c.getD k false)
def cnt : List (List Bool) → Nat → Nat
  | [], _ => 0
  | c :: r, k => (if unk c k = true then 1 else 0) + cnt r k
def wlen : List (List Bool) → Nat → Nat
  | [], m => m
  | c :: r, m => wlen r (max m c.length)
def wl (t : List (List Bool)) : Nat → Nat → Nat → Nat
  | 0, _, w => w
  | d + 1, k, w => wl t d (k + 1) (max w (cnt t k))
def worstS (t : List (List Bool)) : Nat := wl t (wlen t 0) 0 0
theorem cnt_le : ∀ (t : List (List Bool)) (k : Nat), cnt t k ≤ t.length
  | [], _ => Nat.le_refl _
  | c :: r, k => by have := cnt_le r k; unfold cnt; rw [List.length_cons]; split <;> omega
theorem wlen_le {X : Nat} : ∀ (t : List (List Bool)) (m : Nat), (∀ c ∈ t, c.length ≤ X) → m ≤ X → wlen t m ≤ X
  | [], m, _, h => h
  | c :: r, m, hc, h => wlen_le r _ (fun c' h' => hc c' (List.mem_cons_of_mem _ h')) (Nat.max_le.2 ⟨h, hc c (List.mem_cons_self ..)⟩)
theorem bD {t : List (List Bool)} {i : Nat} (h : i < t.length) : t.getD i [] = t[i] := by
  rw [List.getD_eq_getElem?_getD, List.getElem?_eq_getElem h]; rfl
theorem max_int (a b : Nat) : (if (a : Int) < (b : Int) then (b : Int) else (a : Int)) = ((max a b : Nat) : Int) := by split <;> omega
theorem s_int (i : Nat) (h : i < 9223372036854775806) : wr .i64 ((i : Int) + 1) = ((i + 1 : Nat) : Int) := by rw [wr64 (by omega) (by omega)]; omega
section
variable {n : Nat} {t : List (List Bool)} (hl : t.length ≤ 1000000)
include hl
theorem worst_l0 (m : Nat) (w : Int) : ∀ (d i k a : Nat), i + d = t.length → d < k → damage_Worst.l0 n m k (t, (a : Int), w, t, (t.length : Int), (i : Int), ()) = some (t, ((wlen (t.drop i) a : Nat) : Int), w, ())
  | 0, i, 0, a, _, h => absurd h (by decide)
  | d + 1, i, 0, a, _, h => absurd h (by omega)
  | 0, i, k + 1, a, hi, hk => by
    rw [damage_Worst.l0_eq, if_neg (by simp; omega), List.drop_eq_nil_of_le (by omega)]; rfl
  | d + 1, i, k + 1, a, hi, hk => by
    have ha : i < t.length := by omega
    rw [damage_Worst.l0_eq, if_pos (by simp; omega), if_pos (by omega), if_pos (by omega), Int.toNat_natCast, s_int i (by omega), bD ha, max_int, worst_l0 m w d (i + 1) k _ (by omega) (by omega), List.drop_eq_getElem_cons ha]
    rfl
theorem rworst_l0 (m : Nat) (w : Int) : ∀ (d i k a : Nat), i + d = t.length → d < k → ref25_Worst.l0 n m k (t, w, (a : Int), (i : Int), ()) = some (t, w, ((wlen (t.drop i) a : Nat) : Int), ())
  | 0, i, 0, a, _, h => absurd h (by decide)
  | d + 1, i, 0, a, _, h => absurd h (by omega)
  | 0, i, k + 1, a, hi, hk => by
    rw [ref25_Worst.l0_eq, if_neg (by simp; omega), List.drop_eq_nil_of_le (by omega)]; rfl
  | d + 1, i, k + 1, a, hi, hk => by
    have ha : i < t.length := by omega
    have e : wlen (t.drop i) a = wlen (t.drop (i + 1)) (max a t[i].length) := by rw [List.drop_eq_getElem_cons ha]; rfl
    rw [ref25_Worst.l0_eq, if_pos (by simp; omega), if_pos (by omega), if_pos (by omega), Int.toNat_natCast, s_int i (by omega), bD ha, e]
    by_cases h : t[i].length > a
    · rw [if_pos (by simpa using h), if_pos (by omega), if_pos (by omega), rworst_l0 m w d (i + 1) k _ (by omega) (by omega), Nat.max_eq_right (by omega)]
    · rw [if_neg (by simpa using h), rworst_l0 m w d (i + 1) k _ (by omega) (by omega), Nat.max_eq_left (by omega)]
theorem unk_of {c : List Bool} {k : Nat} (h : k < c.length) : unk c k = !(c.getD k false) := rfl
theorem unk_out {c : List Bool} {k : Nat} (h : c.length ≤ k) : unk c k = true := by
  unfold unk; rw [List.getD_eq_getElem?_getD, List.getElem?_eq_none h]; rfl
theorem worst_l4 (m : Nat) (w b22 b23 : Int) (q : Nat) : ∀ (d i k a : Nat), i + d = t.length → d < k → a ≤ i → damage_Worst.l4 n m k (t, w, (q : Int), (a : Int), b22, b23, t, (t.length : Int), (i : Int), ()) = some (t, w, ((a + cnt (t.drop i) q : Nat) : Int), b22, b23, ())
  | 0, i, 0, a, _, h, _ => absurd h (by decide)
  | d + 1, i, 0, a, _, h, _ => absurd h (by omega)
  | 0, i, k + 1, a, hi, hk, _ => by
    rw [damage_Worst.l4_eq, if_neg (by simp; omega), List.drop_eq_nil_of_le (by omega)]; rfl
  | d + 1, i, k + 1, a, hi, hk, hai => by
    have ha : i < t.length := by omega
    have e : cnt (t.drop i) q = (if unk t[i] q = true then 1 else 0) + cnt (t.drop (i + 1)) q := by rw [List.drop_eq_getElem_cons ha]; rfl
    rw [damage_Worst.l4_eq, if_pos (by simp; omega), if_pos (by omega), if_pos (by omega), Int.toNat_natCast, bD ha, e]
    by_cases h : q ≥ t[i].length
    · rw [if_pos (by simpa using h), Option.bind_some]
      dsimp only
      rw [if_pos rfl, Option.bind_some]
      dsimp only
      rw [s_int i (by omega), s_int a (by omega), worst_l4 m w b22 b23 q d (i + 1) k (a + 1) (by omega) (by omega) (by omega), unk_out hl (by omega), if_pos rfl, Nat.add_assoc]
    · rw [if_neg (by simpa using h), if_pos (by omega), if_pos (by omega), Int.toNat_natCast, Option.bind_some]
      dsimp only
      rw [show (!(t[i].getD q false)) = unk t[i] q from rfl]
      by_cases hu : unk t[i] q = true
      · rw [if_pos hu, Option.bind_some]
        dsimp only
        rw [s_int i (by omega), s_int a (by omega), worst_l4 m w b22 b23 q d (i + 1) k (a + 1) (by omega) (by omega) (by omega), if_pos hu, Nat.add_assoc]
      · rw [if_neg hu, Option.bind_some]
        dsimp only
        rw [s_int i (by omega), worst_l4 m w b22 b23 q d (i + 1) k a (by omega) (by omega) (by omega), if_neg hu, Nat.zero_add]
theorem rworst_l4 (m : Nat) (w lg : Int) (q : Nat) : ∀ (d i k a : Nat), i + d = t.length → d < k → a ≤ i → ref25_Worst.l4 n m k (t, w, lg, (q : Int), (a : Int), (i : Int), ()) = some (t, w, lg, (q : Int), ((a + cnt (t.drop i) q : Nat) : Int), ())
  | 0, i, 0, a, _, h, _ => absurd h (by decide)
  | d + 1, i, 0, a, _, h, _ => absurd h (by omega)
  | 0, i, k + 1, a, hi, hk, _ => by
    rw [ref25_Worst.l4_eq, if_neg (by simp; omega), List.drop_eq_nil_of_le (by omega)]; rfl
  | d + 1, i, k + 1, a, hi, hk, hai => by
    have ha : i < t.length := by omega
    have e : cnt (t.drop i) q = (if unk t[i] q = true then 1 else 0) + cnt (t.drop (i + 1)) q := by rw [List.drop_eq_getElem_cons ha]; rfl
    rw [ref25_Worst.l4_eq, if_pos (by simp; omega), if_pos (by omega), if_pos (by omega), Int.toNat_natCast, bD ha, e, s_int i (by omega), s_int a (by omega)]
    by_cases h : q ≥ t[i].length
    · rw [if_pos (by simpa using h), rworst_l4 m w lg q d (i + 1) k (a + 1) (by omega) (by omega) (by omega), unk_out hl (by omega), if_pos rfl, Nat.add_assoc]
    · rw [if_neg (by simpa using h), if_pos (by omega), if_pos (by omega), if_pos (by omega), if_pos (by omega), Int.toNat_natCast, show (!(t[i].getD q false)) = unk t[i] q from rfl]
      by_cases hu : unk t[i] q = true
      · rw [if_pos (c := unk t[i] q = true) hu, rworst_l4 m w lg q d (i + 1) k (a + 1) (by omega) (by omega) (by omega), if_pos hu, Nat.add_assoc]
      · rw [if_neg (c := unk t[i] q = true) hu, rworst_l4 m w lg q d (i + 1) k a (by omega) (by omega) (by omega), if_neg hu, Nat.zero_add]
theorem worst_l2 (m : Nat) (hm : t.length < m) (L : Nat) (hL : L ≤ 1000000) : ∀ (d q k w : Nat), q + d = L → d < k → damage_Worst.l2 n m k (t, (w : Int), (L : Int), (q : Int), ()) = some (((wl t d q w : Nat) : Int), ())
  | 0, i, 0, w, _, h => absurd h (by decide)
  | d + 1, i, 0, w, _, h => absurd h (by omega)
  | 0, i, k + 1, w, hi, hk => by
    rw [damage_Worst.l2_eq, if_neg (by simp; omega)]; rfl
  | d + 1, i, k + 1, w, hi, hk => by
    have h4 := worst_l4 hl (n := n) m (w : Int) (L : Int) (i : Int) i t.length 0 m 0 (by omega) (by omega) (by omega)
    rw [show ((0 : Nat) : Int) = 0 from rfl, List.drop_zero, Nat.zero_add] at h4
    rw [damage_Worst.l2_eq, if_pos (by simp; omega), h4, Option.bind_some]
    dsimp only
    rw [max_int, s_int i (by omega), worst_l2 m hm L hL d (i + 1) k _ (by omega) (by omega)]
    rfl
theorem rworst_l2 (m : Nat) (hm : t.length < m) (L : Nat) (hL : L ≤ 1000000) : ∀ (d q k w : Nat), q + d = L → d < k → ref25_Worst.l2 n m k (t, (w : Int), (L : Int), (q : Int), ()) = some (((wl t d q w : Nat) : Int), ())
  | 0, i, 0, w, _, h => absurd h (by decide)
  | d + 1, i, 0, w, _, h => absurd h (by omega)
  | 0, i, k + 1, w, hi, hk => by
    rw [ref25_Worst.l2_eq, if_neg (by simp; omega)]; rfl
  | d + 1, i, k + 1, w, hi, hk => by
    have h4 := rworst_l4 hl (n := n) m (w : Int) (L : Int) i t.length 0 m 0 (by omega) (by omega) (by omega)
    rw [show ((0 : Nat) : Int) = 0 from rfl, List.drop_zero, Nat.zero_add] at h4
    rw [ref25_Worst.l2_eq, if_pos (by simp; omega), h4, Option.bind_some]
    dsimp only
    rw [s_int i (by omega)]
    unfold wl
    by_cases h : cnt t i > w
    · rw [if_pos (by simpa using h), rworst_l2 m hm L hL d (i + 1) k _ (by omega) (by omega), Nat.max_eq_right (by omega)]
    · rw [if_neg (by simpa using h), rworst_l2 m hm L hL d (i + 1) k _ (by omega) (by omega), Nat.max_eq_left (by omega)]
theorem worst_is (hn : 1000000 < n) (hc : ∀ c ∈ t, c.length ≤ 1000000) : damage_Worst.f n (t, ()) = some (((worstS t : Nat) : Int), ()) := by
  have h0 := worst_l0 hl (n := n) n 0 t.length 0 n 0 (by omega) (by omega)
  rw [show ((0 : Nat) : Int) = 0 from rfl, List.drop_zero] at h0
  have hw := wlen_le t 0 hc (Nat.zero_le _)
  rw [damage_Worst.eq, h0, Option.bind_some]
  have h2 := worst_l2 hl (n := n) n (by omega) (wlen t 0) hw (wlen t 0) 0 n 0 (by omega) (by omega)
  rw [show ((0 : Nat) : Int) = 0 from rfl] at h2
  refine (congrArg (Option.bind · _) h2).trans ?_
  rw [Option.bind_some]
  rfl
theorem rworst_is (hn : 1000000 < n) (hc : ∀ c ∈ t, c.length ≤ 1000000) : ref25_Worst.f n (t, ()) = some (((worstS t : Nat) : Int), ()) := by
  have h0 := rworst_l0 hl (n := n) n 0 t.length 0 n 0 (by omega) (by omega)
  rw [show ((0 : Nat) : Int) = 0 from rfl, List.drop_zero] at h0
  have hw := wlen_le t 0 hc (Nat.zero_le _)
  rw [ref25_Worst.eq, h0, Option.bind_some]
  have h2 := rworst_l2 hl (n := n) n (by omega) (wlen t 0) hw (wlen t 0) 0 n 0 (by omega) (by omega)
  rw [show ((0 : Nat) : Int) = 0 from rfl] at h2
  refine (congrArg (Option.bind · _) h2).trans ?_
  rw [Option.bind_some]
  rfl
end
end Go.Proofs.YtlioalaehkohlaaDoor.Vm

namespace Go.Proofs.YtlioalaehkohlaaDoor.Vm
open Go Go.RowKit
set_option linter.unusedVariables false
set_option linter.unusedSimpArgs false
set_option linter.unusedSectionVars false
set_option maxRecDepth 10000
theorem same_s {n : Nat} {a b : List Int} (hl : a.length < n) (hl' : a.length < 4611686018427387904) : ref01_Same.f n (a, b, ()) = some (decide (a = b), ()) := by
  rw [ref01_Same.eq]
  by_cases hab : a.length = b.length
  · rw [if_neg (by simp [hab])]
    have := same_l0 n n hab hl' a.length 0 n (by omega) (by omega)
    rw [show ((0 : Nat) : Int) = 0 from rfl] at this
    rw [this, Option.bind_some]
    by_cases h : a = b
    · simp [h]
    · simp [h]
  · rw [if_pos (by simp; omega)]
    have : a ≠ b := fun h => hab (by rw [h])
    simp [this]
theorem join_s {n : Nat} {xs : List (List Int)} (hl : xs.flatten.length ≤ 4294967296) (hx : xs.length < n) (hx' : xs.length < 4611686018427387904) : ref01_Join.f n (xs, ()) = some (xs.flatten, ()) := by
  rw [ref01_Join.eq]
  have := join_l0 n n hl hx' xs.length 0 n (by omega) (by omega)
  rw [show ((0 : Nat) : Int) = 0 from rfl, show (xs.take 0).flatten = [] from rfl] at this
  rw [this]; rfl
theorem cat_s {n : Nat} {xs : List (List Int)} (hl : xs.flatten.length ≤ 4294967296) (hx : xs.length < n) (hx' : xs.length < 4611686018427387904) : slices_Concat_byte_byte.f n (xs, ()) = some (xs.flatten, ()) := by
  have h1 := cat_l0 n n hl hx' xs.length 0 n (by omega) (by omega)
  have h2 := cat_l2 n n hl hx' xs.length 0 n (by omega) (by omega)
  rw [show ((0 : Nat) : Int) = 0 from rfl, show (xs.take 0).flatten = [] from rfl] at h1 h2
  rw [show (((List.length ([] : List Int)) : Nat) : Int) = 0 from rfl] at h1
  have h3 := grow_is n (c := ((xs.flatten.length : Nat) : Int)) (by omega) (by omega)
  rw [slices_Concat_byte_byte.eq, h1, Option.bind_some]
  show (slices_Grow_byte_byte.f n ((), ((xs.flatten.length : Nat) : Int), ())).bind _ = _
  rw [h3, Option.bind_some]
  show (slices_Concat_byte_byte.l2 n n n ([], xs, (xs.length : Int), 0, ())).bind _ = _
  rw [h2, Option.bind_some]
/-- a volume's column -/
def colB (b : List Int) (S : Int) : List Int := le 8 (b.length : Int) ++ (b ++ List.replicate (S - (b.length : Int)).toNat 0)
theorem colB_len {b : List Int} {S : Int} (h : (b.length : Int) ≤ S) : ((colB b S).length : Int) = 8 + S := by
  unfold colB
  rw [List.length_append, List.length_append, le_len, List.length_replicate]
  omega
theorem colB_by {b : List Int} (S : Int) (hb : By b) : By (colB b S) := (le_by _ _).append (hb.append (fun x hx => by
  obtain rfl := (List.mem_replicate.1 hx).2
  decide))
theorem noneE_some {β R : Type} (l : List β) (K : Option R) (h : l ≠ []) : noneE l K = K := by
  cases l with
  | nil => exact absurd rfl h
  | cons _ _ => rfl
theorem flat3 (x y z : List Int) : [x, y, z].flatten = x ++ (y ++ z) := by simp
theorem column_is {n : Nat} (hn : 1000 < n) {b : List Int} {S : Int} (h5 : 5 ≤ S) (hS : S ≤ 16777216) : stripe_Column.f n (b, S, ()) = some (if (b.length : Int) > S then (none, 2, ()) else (some (colB b S), 0, ())) := by
  rw [stripe_Column.eq, stripe_sized.eq, if_pos (decide_eq_true (by omega)), Option.bind_some]
  dsimp only
  rw [decide_eq_true hS, if_neg (by decide)]
  by_cases h : (b.length : Int) > S
  · rw [if_pos (decide_eq_true h), if_pos h]
  rw [if_neg (by simpa using h), if_neg h, wru64 (by omega) (by omega), put_is (by omega) _ _ (by decide) (by decide), Option.bind_some]
  dsimp only
  have e : wr .i64 (S - (b.length : Int)) = S - (b.length : Int) := wr64 (by omega) (by omega)
  have hc := colB_len (b := b) (S := S) (by omega)
  rw [e, if_pos (by omega), if_pos (lim_of (by omega))]
  have hj := cat_s (n := n) (xs := [le (Int.toNat 8) (b.length : Int), b, List.replicate (S - (b.length : Int)).toNat 0]) (by rw [flat3]; show (colB b S).length ≤ _; omega) (by show 3 < n; omega) (by show 3 < _; decide)
  rw [flat3] at hj
  refine (congrArg (Option.bind · _) hj).trans ?_
  rw [Option.bind_some]
  exact noneE_some _ _ (fun h => by have := congrArg List.length h; simp [le_len] at this)
theorem rcolumn_is {n : Nat} (hn : 1000 < n) {b : List Int} {S : Int} (h5 : 5 ≤ S) (hS : S ≤ 16777216) (h : (b.length : Int) ≤ S) : ref23_Column.f n (b, S, ()) = some (colB b S, 0, ()) := by
  have e : wr .i64 (S - (b.length : Int)) = S - (b.length : Int) := wr64 (by omega) (by omega)
  have hc := colB_len (b := b) (S := S) (by omega)
  rw [ref23_Column.eq, if_neg (by simp; omega), if_neg (by simp; omega), if_neg (by simp; omega), wru64 (by omega) (by omega), rput_is (by omega) _ _ (by omega) (by omega) (by decide) (by decide), Option.bind_some, e, if_pos (by omega), if_pos (lim_of (by omega))]
  have hj := join_s (n := n) (xs := [le (Int.toNat 8) (b.length : Int), b, List.replicate (S - (b.length : Int)).toNat 0]) (by rw [flat3]; show (colB b S).length ≤ _; omega) (by show 3 < n; omega) (by show 3 < _; decide)
  rw [flat3] at hj
  refine (congrArg (Option.bind · _) hj).trans ?_
  rw [Option.bind_some]
  rfl
/-- the column of a slot -/
def colS (g : Ge) (s : Sl) (i : Nat) : Option (List Int) :=
  if s.1 = true then
    if g.1 ≤ (i : Int) then (if (s.2.1.length : Int) = (hdN g : Int) + (8 + g.2.2.1) then some (s.2.1.drop (hdN g)) else none)
    else if 1 ≤ s.2.1.length then (if (s.2.1.length : Int) ≤ g.2.2.1 then some (colB s.2.1 g.2.2.1) else none)
    else none
  else none
theorem col_is {n : Nat} (hn : 1000 < n) {g : Ge} (hg : rgtP g) {s : Sl} (hl : s.2.1.length ≤ 1000000) (i : Nat) : damage_column.f n (s, g, (i : Int), ()) = some (colS g s i, ()) := by
  obtain ⟨h, b, ⟨⟩⟩ := s
  replace hl : b.length ≤ 1000000 := hl
  rw [damage_column.eq, long_is n hg, Option.bind_some, head_is n hg, Option.bind_some]
  obtain ⟨h3, _⟩ := cnb_le hg
  have hh : hdN g = 24 + 4 * (cN g * nbN g) := rfl
  have hgg := hg
  unfold rgtP at hgg
  unfold colS
  dsimp only
  cases h with
  | false => rw [if_pos (by decide), if_neg (by decide)]
  | true =>
    rw [if_neg (by decide), if_pos rfl]
    by_cases h1 : g.1 ≤ (i : Int)
    · rw [if_pos (c := decide ((i : Int) ≥ g.1) = true) (decide_eq_true h1), if_pos h1, Option.bind_some]
      dsimp only
      rw [wr64 (by omega) (by omega)]
      by_cases h2 : (b.length : Int) = (hdN g : Int) + (8 + g.2.2.1)
      · rw [if_pos (c := ((b.length : Int) == (hdN g : Int) + (8 + g.2.2.1)) = true) (by simpa using h2), if_pos h2, if_pos (Int.natCast_nonneg _), if_pos (show ((hdN g : Nat) : Int) ≤ ((List.length b : Nat) : Int) by omega), List.take_length, Int.toNat_natCast, clone_is n (by rw [List.length_drop]; omega), Option.bind_some]
        dsimp only
        exact noneE_some _ _ (fun h => by have := congrArg List.length h; rw [List.length_drop] at this; simp at this; omega)
      · rw [if_neg (c := ((b.length : Int) == (hdN g : Int) + (8 + g.2.2.1)) = true) (by simpa using h2), if_neg h2, if_neg (c := decide ((i : Int) < g.1) = true) (by simpa using h1), Option.bind_some]
        rfl
    · rw [if_neg (c := decide ((i : Int) ≥ g.1) = true) (by simpa using h1), if_neg h1, Option.bind_some]
      dsimp only
      rw [if_neg (by decide), if_pos (c := decide ((i : Int) < g.1) = true) (decide_eq_true (by omega)), Option.bind_some]
      dsimp only
      by_cases h4 : 1 ≤ b.length
      · rw [if_pos (c := decide ((b.length : Int) ≥ 1) = true) (decide_eq_true (by omega)), if_pos h4, column_is hn (by omega) (by omega), Option.bind_some]
        dsimp only
        by_cases h5 : (b.length : Int) > g.2.2.1
        · rw [if_pos h5, if_neg (c := (b.length : Int) ≤ g.2.2.1) (by omega)]
        · rw [if_neg h5, if_pos (c := (b.length : Int) ≤ g.2.2.1) (by omega)]
      · rw [if_neg (c := decide ((b.length : Int) ≥ 1) = true) (by simp; omega), if_neg h4]
def colT (t : List Sl) (g : Ge) (i : Nat) : List (List Int) := (List.range i).map fun j => (colS g (t.getD j zSl) j).getD []
def thT (t : List Sl) (g : Ge) (i : Nat) : List Bool := (List.range i).map fun j => (colS g (t.getD j zSl) j).isSome
theorem colT_len (t : List Sl) (g : Ge) (i : Nat) : (colT t g i).length = i := by simp [colT]
theorem thT_len (t : List Sl) (g : Ge) (i : Nat) : (thT t g i).length = i := by simp [thT]
theorem colT_succ (t : List Sl) (g : Ge) (i : Nat) : colT t g i ++ [(colS g (t.getD i zSl) i).getD []] = colT t g (i + 1) := by
  unfold colT; rw [List.range_succ, List.map_append]; rfl
theorem thT_succ (t : List Sl) (g : Ge) (i : Nat) : thT t g i ++ [(colS g (t.getD i zSl) i).isSome] = thT t g (i + 1) := by
  unfold thT; rw [List.range_succ, List.map_append]; rfl
theorem colS_z (g : Ge) (i : Nat) : colS g zSl i = none := rfl
theorem slN {t : List Sl} {i : Nat} (h : ¬ i < t.length) : t.getD i zSl = zSl := by
  rw [List.getD_eq_getElem?_getD, List.getElem?_eq_none (by omega)]; rfl
theorem not_none {α : Type} (o : Option α) : (!(Option.isNone o)) = o.isSome := by cases o <;> rfl
def SlLen (t : List Sl) : Prop := ∀ s ∈ t, s.2.1.length ≤ 1000000
theorem slD_len {t : List Sl} (ht : SlLen t) (i : Nat) : (t.getD i zSl).2.1.length ≤ 1000000 := by
  by_cases h : i < t.length
  · rw [slD h]; exact ht _ (List.getElem_mem h)
  · rw [slN h]; decide
section
variable {n : Nat} (hn : 16777300 ≤ n) {t : List Sl} (ht : SlLen t) {g : Ge} (hg : rgtP g)
include hn ht hg
theorem cols_l0 (m : Nat) : ∀ (d i k : Nat), i + d = cN g → d < k → damage_Columns.l0 n m k (t, (g.1, g.2.1, g.2.2.1, g.2.2.2.1, ()), colT t g i, thT t g i, ((cN g : Nat) : Int), (i : Int), ()) = some (colT t g (cN g), thT t g (cN g), ())
  | 0, i, 0, _, h => absurd h (by decide)
  | d + 1, i, 0, _, h => absurd h (by omega)
  | 0, i, k + 1, hi, hk => by
    obtain rfl : i = cN g := by omega
    rw [damage_Columns.l0_eq, if_neg (by simp)]
  | d + 1, i, k + 1, hi, hk => by
    obtain ⟨_, _, hc⟩ := cn_nb hg
    have ih := cols_l0 m d (i + 1) k (by omega) (by omega)
    have fin : (damage_column.f n (t.getD i zSl, g, (i : Int), ())) = some (colS g (t.getD i zSl) i, ()) := col_is (by omega) hg (slD_len ht i) i
    rw [damage_Columns.l0_eq, if_pos (by simp; omega)]
    by_cases h : i < t.length
    · rw [if_pos (by simpa using h), if_pos (by omega), if_pos (by omega), Int.toNat_natCast, Option.bind_some]
      dsimp only
      refine (congrArg (Option.bind · _) fin).trans ?_
      rw [Option.bind_some]
      dsimp only
      rw [if_pos (lim_of (by rw [colT_len]; simp; omega)), if_pos (lim_of (by rw [thT_len]; simp; omega)), not_none, colT_succ, thT_succ, s_int i (by omega)]
      exact ih
    · rw [if_neg (by simpa using h), Option.bind_some]
      dsimp only
      rw [slN h] at fin
      refine (congrArg (Option.bind · _) fin).trans ?_
      rw [Option.bind_some]
      dsimp only
      rw [if_pos (lim_of (by rw [colT_len]; simp; omega)), if_pos (lim_of (by rw [thT_len]; simp; omega)), not_none, ← slN h, colT_succ, thT_succ, s_int i (by omega)]
      exact ih
theorem cols_is : damage_Columns.f n (t, g, ()) = some (colT t g (cN g), thT t g (cN g), ()) := by
  obtain ⟨e1, h1, h2⟩ := cn_nb hg
  have h := cols_l0 hn ht hg n (cN g) 0 n (by omega) (by omega)
  rw [damage_Columns.eq, right_is, decide_eq_true hg, Option.bind_some, if_neg (by decide), ← e1, wr64 (by omega) (by omega)]
  refine (congrArg (Option.bind · _) h).trans ?_
  rw [Option.bind_some]
theorem rcols_l0 (m : Nat) : ∀ (d i k : Nat), i + d = cN g → d < k → ref25_Columns.l0 n m k (t, (g.1, g.2.1, g.2.2.1, g.2.2.2.1, ()), colT t g i, thT t g i, (i : Int), ()) = some (colT t g (cN g), thT t g (cN g), ())
  | 0, i, 0, _, h => absurd h (by decide)
  | d + 1, i, 0, _, h => absurd h (by omega)
  | 0, i, k + 1, hi, hk => by
    obtain ⟨e1, h1, h2⟩ := cn_nb hg
    obtain rfl : i = cN g := by omega
    rw [ref25_Columns.l0_eq, ← e1, wr64 (by omega) (by omega), if_neg (by simp)]
  | d + 1, i, k + 1, hi, hk => by
    obtain ⟨e1, _, hc⟩ := cn_nb hg
    obtain ⟨h3, _⟩ := cnb_le hg
    have hh : hdN g = 24 + 4 * (cN g * nbN g) := rfl
    have hgg := hg
    unfold rgtP at hgg
    have ih := rcols_l0 m d (i + 1) k (by omega) (by omega)
    have hcl : ∀ x : List Int, ((colT t g i).length : Int) + (([x].length : Nat) : Int) ≤ lim := fun x => lim_of (by rw [colT_len]; simp; omega)
    have htl : ∀ x : Bool, ((thT t g i).length : Int) + (([x].length : Nat) : Int) ≤ lim := fun x => lim_of (by rw [thT_len]; simp; omega)
    rw [ref25_Columns.l0_eq, ← e1, wr64 (x := ((cN g : Nat) : Int)) (by omega) (by omega), if_pos (by simp; omega)]
    by_cases h : i < t.length
    case neg =>
      have e : colS g (t.getD i zSl) i = none := by rw [slN h]; rfl
      have c1 := colT_succ t g i
      have c2 := thT_succ t g i
      rw [e] at c1 c2
      rw [if_neg (by simpa using h), Option.bind_some]
      dsimp only
      rw [if_neg (by decide), Option.bind_some]
      dsimp only
      rw [if_pos (hcl _), if_pos (htl _), s_int i (by omega)]
      rw [show colT t g i ++ [([] : List Int)] = colT t g (i + 1) from c1, show thT t g i ++ [false] = thT t g (i + 1) from c2]
      exact ih
    rw [if_pos (by simpa using h), if_pos (by omega), if_pos (by omega), Int.toNat_natCast, Option.bind_some]
    dsimp only
    rw [show t.getD i (false, ([], ())) = t[i] from slD h]
    have hlb : t[i].2.1.length ≤ 1000000 := ht _ (List.getElem_mem h)
    have c1 := colT_succ t g i
    have c2 := thT_succ t g i
    rw [slD h] at c1 c2
    unfold colS at c1 c2
    by_cases h1 : t[i].1 = true
    case neg =>
      rw [if_neg h1] at c1 c2
      rw [if_neg h1, Option.bind_some]
      dsimp only
      rw [if_pos (hcl _), if_pos (htl _), s_int i (by omega)]
      rw [show colT t g i ++ [([] : List Int)] = colT t g (i + 1) from c1, show thT t g i ++ [false] = thT t g (i + 1) from c2]
      exact ih
    rw [if_pos h1] at c1 c2
    rw [if_pos h1, if_pos (by omega), if_pos (by omega)]
    refine (congrArg (fun z => Option.bind (Option.bind z _) _) (rhead_is hn hg)).trans ?_
    rw [Option.bind_some]
    dsimp only
    have hgi : t.getD ((i : Int)).toNat (false, ([], ())) = t[i] := by rw [Int.toNat_natCast]; exact slD h
    rw [hgi]
    have e8 : wr .i64 ((hdN g : Int) + 8) = (hdN g : Int) + 8 := wr64 (by omega) (by omega)
    have e9 : wr .i64 ((hdN g : Int) + 8 + g.2.2.1) = (hdN g : Int) + (8 + g.2.2.1) := by rw [wr64 (by omega) (by omega)]; omega
    by_cases h2 : g.1 ≤ (i : Int)
    · rw [if_pos h2] at c1 c2
      rw [if_neg (c := decide ((i : Int) < g.1) = true) (by simpa using h2)]
      simp only [Option.bind_some]
      rw [if_neg (by decide)]
      simp only [Option.bind_some]
      rw [if_pos (c := decide ((i : Int) ≥ g.1) = true) (decide_eq_true h2)]
      simp only [Option.bind_some]
      rw [e8, e9]
      by_cases h4 : (t[i].2.1.length : Int) = (hdN g : Int) + (8 + g.2.2.1)
      · rw [if_pos h4] at c1 c2
        rw [if_pos (c := ((t[i].2.1.length : Int) == (hdN g : Int) + (8 + g.2.2.1)) = true) (by simpa using h4), if_pos (Int.natCast_nonneg _), if_pos (show ((hdN g : Nat) : Int) ≤ ((List.length t[i].2.1 : Nat) : Int) by omega)]
        simp only [Option.bind_some]
        rw [List.take_length, Int.toNat_natCast, if_pos (hcl _), if_pos (htl _), s_int i (by omega)]
        rw [show colT t g i ++ [t[i].2.1.drop (hdN g)] = colT t g (i + 1) from c1, show thT t g i ++ [true] = thT t g (i + 1) from c2]
        exact ih
      · rw [if_neg h4] at c1 c2
        rw [if_neg (c := ((t[i].2.1.length : Int) == (hdN g : Int) + (8 + g.2.2.1)) = true) (by simpa using h4)]
        simp only [Option.bind_some]
        rw [if_pos (hcl _), if_pos (htl _), s_int i (by omega)]
        rw [show colT t g i ++ [([] : List Int)] = colT t g (i + 1) from c1, show thT t g i ++ [false] = thT t g (i + 1) from c2]
        exact ih
    · rw [if_neg h2] at c1 c2
      rw [if_pos (c := decide ((i : Int) < g.1) = true) (decide_eq_true (by omega))]
      by_cases h5 : 1 ≤ t[i].2.1.length
      case neg =>
        rw [if_neg h5] at c1 c2
        rw [if_neg (c := decide ((t[i].2.1.length : Int) ≥ 1) = true) (by simp; omega)]
        simp only [Option.bind_some]
        rw [if_neg (by decide)]
        simp only [Option.bind_some]
        rw [if_neg (c := decide ((i : Int) ≥ g.1) = true) (by simpa using h2)]
        simp only [Option.bind_some]
        rw [if_neg (by decide)]
        simp only [Option.bind_some]
        rw [if_pos (hcl _), if_pos (htl _), s_int i (by omega)]
        rw [show colT t g i ++ [([] : List Int)] = colT t g (i + 1) from c1, show thT t g i ++ [false] = thT t g (i + 1) from c2]
        exact ih
      rw [if_pos h5] at c1 c2
      rw [if_pos (c := decide ((t[i].2.1.length : Int) ≥ 1) = true) (decide_eq_true (by omega))]
      simp only [Option.bind_some]
      by_cases h6 : (t[i].2.1.length : Int) ≤ g.2.2.1
      · rw [if_pos h6] at c1 c2
        rw [if_pos (decide_eq_true h6), rcolumn_is (by omega) (by omega) (by omega) h6]
        simp only [Option.bind_some]
        rw [if_neg (c := decide ((i : Int) ≥ g.1) = true) (by simpa using h2)]
        simp only [Option.bind_some]
        rw [if_neg (by decide)]
        simp only [Option.bind_some]
        rw [if_pos (hcl _), if_pos (htl _), s_int i (by omega)]
        rw [show colT t g i ++ [colB t[i].2.1 g.2.2.1] = colT t g (i + 1) from c1, show thT t g i ++ [true] = thT t g (i + 1) from c2]
        exact ih
      · rw [if_neg h6] at c1 c2
        rw [if_neg (by simpa using h6)]
        simp only [Option.bind_some]
        rw [if_neg (c := decide ((i : Int) ≥ g.1) = true) (by simpa using h2)]
        simp only [Option.bind_some]
        rw [if_neg (by decide)]
        simp only [Option.bind_some]
        rw [if_pos (hcl _), if_pos (htl _), s_int i (by omega)]
        rw [show colT t g i ++ [([] : List Int)] = colT t g (i + 1) from c1, show thT t g i ++ [false] = thT t g (i + 1) from c2]
        exact ih
theorem rcols_is : ref25_Columns.f n (t, g, ()) = some (colT t g (cN g), thT t g (cN g), ()) := by
  obtain ⟨e1, h1, h2⟩ := cn_nb hg
  have h := rcols_l0 hn ht hg n (cN g) 0 n (by omega) (by omega)
  rw [ref25_Columns.eq]
  refine (congrArg (Option.bind · _) h).trans ?_
  rw [Option.bind_some]
end
theorem cols_not (n : Nat) (t : List Sl) {g : Ge} (hg : ¬ rgtP g) : damage_Columns.f n (t, g, ()) = some ([], [], ()) := by
  rw [damage_Columns.eq, right_is, decide_eq_false hg, Option.bind_some, if_pos (by decide)]
end Go.Proofs.YtlioalaehkohlaaDoor.Vm

namespace Go.Proofs.YtlioalaehkohlaaDoor.Vm
open Go Go.RowKit
set_option linter.unusedVariables false
set_option linter.unusedSimpArgs false
set_option linter.unusedSectionVars false
set_option maxRecDepth 10000
def blk (c : List Int) (B k : Nat) : List Int := (c.drop (k * B)).take B
def bS (g : Ge) : Nat := g.2.2.2.1.toNat
def isK (cols sums : List (List Int)) (g : Ge) (i k : Nat) : Bool :=
  decide ((((cols.getD i []).length : Nat) : Int) = 8 + g.2.2.1) && (decide (i < sums.length) && (decide (k < (sums.getD i []).length) && (crcS (blk (cols.getD i []) (bS g) k) == (sums.getD i []).getD k 0)))
def rowK (cols sums : List (List Int)) (g : Ge) (i k : Nat) : List Bool := (List.range k).map (isK cols sums g i)
def knT (cols sums : List (List Int)) (g : Ge) (i : Nat) : List (List Bool) := (List.range i).map fun j => rowK cols sums g j (nbN g)
theorem rowK_len (cols sums : List (List Int)) (g : Ge) (i k : Nat) : (rowK cols sums g i k).length = k := by simp [rowK]
theorem rowK_succ (cols sums : List (List Int)) (g : Ge) (i k : Nat) : rowK cols sums g i k ++ [isK cols sums g i k] = rowK cols sums g i (k + 1) := by
  unfold rowK; rw [List.range_succ, List.map_append]; rfl
theorem knT_len (cols sums : List (List Int)) (g : Ge) (i : Nat) : (knT cols sums g i).length = i := by simp [knT]
theorem knT_succ (cols sums : List (List Int)) (g : Ge) (i : Nat) : knT cols sums g i ++ [rowK cols sums g i (nbN g)] = knT cols sums g (i + 1) := by
  unfold knT; rw [List.range_succ, List.map_append]; rfl
theorem rowK_none {cols sums : List (List Int)} {g : Ge} {i : Nat} (h : ¬ ((((cols.getD i []).length : Nat) : Int) = 8 + g.2.2.1 ∧ i < sums.length)) (k : Nat) : rowK cols sums g i k = List.replicate k false := by
  unfold rowK
  rw [List.eq_replicate_iff]
  refine ⟨by simp, fun x hx => ?_⟩
  obtain ⟨j, _, rfl⟩ := List.mem_map.1 hx
  unfold isK
  by_cases h1 : (((cols.getD i []).length : Nat) : Int) = 8 + g.2.2.1
  · rw [decide_eq_false (p := i < sums.length) (fun h2 => h ⟨h1, h2⟩), Bool.false_and, Bool.and_false]
  · rw [decide_eq_false h1, Bool.false_and]
theorem drop_ge {c : List Int} {m : Nat} (h : c.length ≤ m) : c.drop m = [] := List.drop_eq_nil_of_le h
theorem cks_is {n : Nat} {c : List Int} (hc : By c) {B nb : Nat} (hB : 1 ≤ B) (h1 : c.length ≤ nb * B) (h2 : ∀ k, k < nb → k * B < c.length) (hl : c.length < n) (hl' : c.length < 4611686018427387904) : ∀ (d j f : Nat), j + d = nb → d < f → Ck.cks (crc_Blocks.sumB n) B f (c.drop (j * B)) = some ((List.range' j d).map fun k => crcS (blk c B k))
  | 0, j, 0, _, h => absurd h (by decide)
  | d + 1, j, 0, _, h => absurd h (by omega)
  | 0, j, f + 1, hj, hf => by
    obtain rfl : j = nb := by omega
    rw [drop_ge h1]; rfl
  | d + 1, j, f + 1, hj, hf => by
    have hlt := h2 j (by omega)
    have ih := cks_is hc hB h1 h2 hl hl' d (j + 1) f (by omega) (by omega)
    have hs : crc_Blocks.sumB n ((c.drop (j * B)).take B) = some (crcS (blk c B j)) := by
      unfold crc_Blocks.sumB
      rw [crc_is ((hc.drop _).take _) (by rw [List.length_take, List.length_drop]; omega) (by rw [List.length_take, List.length_drop]; omega), Option.bind_some]
      rfl
    obtain ⟨y, ys, hy⟩ : ∃ y ys, c.drop (j * B) = y :: ys := by
      cases hd : c.drop (j * B) with
      | nil => have := congrArg List.length hd; rw [List.length_drop] at this; simp at this; omega
      | cons y ys => exact ⟨y, ys, rfl⟩
    unfold Ck.cks
    rw [hy]
    dsimp only
    rw [← hy, hs, Option.bind_some, List.drop_drop, show j * B + B = (j + 1) * B by rw [Nat.add_mul, Nat.one_mul], ih, Option.bind_some, List.range'_succ, List.map_cons]
def crcs (c : List Int) (B nb : Nat) : List Int := (List.range nb).map fun k => crcS (blk c B k)
theorem crcs_len (c : List Int) (B nb : Nat) : (crcs c B nb).length = nb := by simp [crcs]
theorem crcs_get (c : List Int) (B nb : Nat) {k : Nat} (h : k < nb) : (crcs c B nb).getD k 0 = crcS (blk c B k) := by
  unfold crcs
  rw [List.getD_eq_getElem?_getD, List.getElem?_map, List.getElem?_range h]
  rfl
theorem bS_is {g : Ge} (hg : rgtP g) : ((bS g : Nat) : Int) = g.2.2.2.1 ∧ 1 ≤ bS g ∧ bS g ≤ 16777216 := by
  unfold rgtP at hg
  unfold bS
  omega
theorem nb_cut {g : Ge} (hg : rgtP g) {c : List Int} (hc : (c.length : Int) = 8 + g.2.2.1) : c.length ≤ nbN g * bS g ∧ ∀ k, k < nbN g → k * bS g < c.length := by
  obtain ⟨s1, s2⟩ := nb_spec hg
  obtain ⟨e, h1, h2⟩ := bS_is hg
  obtain ⟨_, n1, n2⟩ := nb_pos hg
  rw [← e] at s1 s2
  constructor
  · have : ((nbN g : Int) * (bS g : Int)) = ((nbN g * bS g : Nat) : Int) := by rw [Int.natCast_mul]
    omega
  · intro k hk
    have h3 : (k : Int) * (bS g : Int) ≤ ((nbN g : Int) - 1) * (bS g : Int) := Int.mul_le_mul_of_nonneg_right (by omega) (by omega)
    have : ((k : Int) * (bS g : Int)) = ((k * bS g : Nat) : Int) := by rw [Int.natCast_mul]
    omega
theorem blocksum_is {n : Nat} {g : Ge} (hg : rgtP g) {c : List Int} (hb : By c) (hc : (c.length : Int) = 8 + g.2.2.1) (hn : 16777300 ≤ n) : crc_Blocks.f n (c, g.2.2.2.1, ()) = some (crcs c (bS g) (nbN g), ()) := by
  obtain ⟨e, h1, h2⟩ := bS_is hg
  obtain ⟨c1, c2⟩ := nb_cut hg hc
  obtain ⟨_, n1, n2⟩ := nb_pos hg
  have hgg := hg
  unfold rgtP at hgg
  have hk := cks_is (n := n) hb h1 c1 c2 (by omega) (by omega) (nbN g) 0 n (by omega) (by omega)
  rw [Nat.zero_mul, List.drop_zero, ← List.range_eq_range'] at hk
  unfold crc_Blocks.f Ck.blocksN
  dsimp only
  rw [if_neg (by omega), if_pos (lim_of (by omega)), if_pos (lim_of (by omega))]
  rw [show (g.2.2.2.1 : Int).toNat = bS g from rfl, hk, Option.bind_some]
  rfl
section
variable {n : Nat} (hn : 16777300 ≤ n) {cols sums : List (List Int)} (hcb : ∀ c ∈ cols, By c) (hcl : cols.length ≤ 1000000) (hsl : sums.length ≤ 1000000) {g : Ge} (hg : rgtP g)
include hn hcb hcl hsl hg
theorem known_l2 (m : Nat) (out : List (List Bool)) (c16 : List (List Int)) (c17 c18 : Int) {i : Nat} (hi : i < cols.length) (hc : (((cols.getD i []).length : Nat) : Int) = 8 + g.2.2.1) (his : i < sums.length) : ∀ (d k f : Nat), k + d = nbN g → d < f →
    damage_Known.l2 n m f (sums, (g.1, g.2.1, g.2.2.1, g.2.2.2.1, ()), out, (i : Int), rowK cols sums g i k ++ List.replicate d false, c16, c17, c18, crcs (cols.getD i []) (bS g) (nbN g), ((nbN g : Nat) : Int), (k : Int), ()) = some (sums, (g.1, g.2.1, g.2.2.1, g.2.2.2.1, ()), out, rowK cols sums g i (nbN g), c16, c17, c18, ())
  | 0, k, 0, _, h => absurd h (by decide)
  | d + 1, k, 0, _, h => absurd h (by omega)
  | 0, k, f + 1, hk, hf => by
    obtain rfl : k = nbN g := by omega
    rw [damage_Known.l2_eq, if_neg (by simp)]
    simp
  | d + 1, k, f + 1, hk, hf => by
    obtain ⟨_, n1, n2⟩ := nb_pos hg
    have ih := known_l2 m out c16 c17 c18 hi hc his d (k + 1) f (by omega) (by omega)
    rw [damage_Known.l2_eq, if_pos (by simp; omega), if_pos (by omega), if_pos (by rw [crcs_len]; omega), if_pos (by omega), if_pos (by omega), Int.toNat_natCast, Int.toNat_natCast]
    have hro : k < (rowK cols sums g i k ++ List.replicate (d + 1) false).length := by rw [List.length_append, rowK_len, List.length_replicate]; omega
    by_cases h : k < (sums.getD i []).length
    · have e : isK cols sums g i k = ((sums.getD i []).getD k 0 == crcS (blk (cols.getD i []) (bS g) k)) := by
        unfold isK
        rw [decide_eq_true hc, decide_eq_true his, decide_eq_true h, Bool.true_and, Bool.true_and, Bool.true_and, BEq.comm]
      rw [if_pos (by simpa using h), if_pos (by omega), if_pos (by omega), if_pos (by omega), if_pos (by omega), if_pos (by omega), if_pos (by omega), crcs_get _ _ _ (by omega), ← e, set_rep _ _ _ _ (rowK_len cols sums g i k), rowK_succ]
      simp only [Option.bind_some]
      rw [s_int k (by omega)]
      exact ih
    · have e : isK cols sums g i k = false := by
        unfold isK
        rw [decide_eq_false h, Bool.false_and, Bool.and_false, Bool.and_false]
      rw [if_neg (by simpa using h), if_pos (by omega), if_pos (by omega), ← e, set_rep _ _ _ _ (rowK_len cols sums g i k), rowK_succ, e]
      simp only [Option.bind_some]
      rw [s_int k (by omega)]
      exact ih
theorem known_l0 : ∀ (d i f : Nat), i + d = cols.length → d < f →
    damage_Known.l0 n n f (sums, (g.1, g.2.1, g.2.2.1, g.2.2.2.1, ()), knT cols sums g i, cols, (cols.length : Int), (i : Int), ()) = some (knT cols sums g cols.length, ())
  | 0, k, 0, _, h => absurd h (by decide)
  | d + 1, k, 0, _, h => absurd h (by omega)
  | 0, i, f + 1, hk, hf => by
    obtain rfl : i = cols.length := by omega
    rw [damage_Known.l0_eq, if_neg (by simp)]
  | d + 1, i, f + 1, hk, hf => by
    obtain ⟨_, n1, n2⟩ := nb_pos hg
    have hi : i < cols.length := by omega
    have ih := known_l0 d (i + 1) f (by omega) (by omega)
    have hout : ∀ x : List Bool, ((knT cols sums g i).length : Int) + (([x].length : Nat) : Int) ≤ lim := fun x => lim_of (by rw [knT_len]; simp; omega)
    have eg : cols.getD i [] = cols[i] := by rw [List.getD_eq_getElem?_getD, List.getElem?_eq_getElem hi]; rfl
    rw [damage_Known.l0_eq, if_pos (by simp; omega), if_pos (by omega), if_pos (by omega), Int.toNat_natCast]
    refine (congrArg (Option.bind · _) (blocks_is n hg)).trans ?_
    rw [Option.bind_some]
    dsimp only
    rw [if_pos (Int.natCast_nonneg _), if_pos (lim_of (show ((nbN g : Nat) : Int) ≤ 4294967296 by omega)), Int.toNat_natCast]
    refine (congrArg (fun z => Option.bind (Option.bind z _) _) (long_is n hg)).trans ?_
    rw [Option.bind_some]
    dsimp only
    by_cases hc : (((cols.getD i []).length : Nat) : Int) = 8 + g.2.2.1
    · rw [if_pos (by simpa using hc)]
      simp only [Option.bind_some]
      by_cases his : i < sums.length
      · have hb : By (cols.getD i []) := by rw [eg]; exact hcb _ (List.getElem_mem hi)
        rw [if_pos (by simpa using his), blocksum_is hg hb hc hn]
        simp only [Option.bind_some]
        have h2 := known_l2 hn hcb hcl hsl hg n (knT cols sums g i) cols (cols.length : Int) (i : Int) hi hc his (nbN g) 0 n (by omega) (by omega)
        rw [show ((0 : Nat) : Int) = 0 from rfl, show rowK cols sums g i 0 = [] from rfl, List.nil_append] at h2
        rw [crcs_len, h2]
        simp only [Option.bind_some]
        rw [if_pos (hout _), knT_succ, s_int i (by omega)]
        exact ih
      · rw [if_neg (by simpa using his)]
        simp only [Option.bind_some]
        rw [if_pos (hout _), ← rowK_none (cols := cols) (sums := sums) (g := g) (i := i) (fun h => his h.2), knT_succ, s_int i (by omega)]
        exact ih
    · rw [if_neg (by simpa using hc)]
      simp only [Option.bind_some]
      rw [if_neg (by decide)]
      simp only [Option.bind_some]
      rw [if_pos (hout _), ← rowK_none (cols := cols) (sums := sums) (g := g) (i := i) (fun h => hc h.1), knT_succ, s_int i (by omega)]
      exact ih
theorem known_is : damage_Known.f n (cols, sums, g, ()) = some (knT cols sums g cols.length, ()) := by
  have h := known_l0 hn hcb hcl hsl hg cols.length 0 n (by omega) (by omega)
  rw [damage_Known.eq, right_is, decide_eq_true hg, Option.bind_some, if_neg (by decide)]
  refine (congrArg (Option.bind · _) h).trans ?_
  rw [Option.bind_some]
theorem held_is {a b : Int} (h0 : 0 ≤ a) (h1 : 0 ≤ b) : ref01_Held.f n (a, 0, b, ()) = some (if b < a then b else a, ()) := by
  rw [ref01_Held.eq]
  by_cases h : a > b
  · rw [if_pos (decide_eq_true h), if_neg (by simp; omega), if_pos h]
  · rw [if_neg (by simpa using h), if_neg (by simp; omega), if_neg (by omega)]
theorem rknown_l2 (m : Nat) (out : List (List Bool)) {i : Nat} (hi : i < cols.length) : ∀ (d k f : Nat), k + d = nbN g → d < f →
    ref25_Known.l2 n m f (cols, sums, (g.1, g.2.1, g.2.2.1, g.2.2.2.1, ()), out, (i : Int), rowK cols sums g i k, (k : Int), ()) = some (cols, sums, (g.1, g.2.1, g.2.2.1, g.2.2.2.1, ()), out, (i : Int), rowK cols sums g i (nbN g), ())
  | 0, k, 0, _, h => absurd h (by decide)
  | d + 1, k, 0, _, h => absurd h (by omega)
  | 0, k, f + 1, hk, hf => by
    obtain rfl : k = nbN g := by omega
    rw [ref25_Known.l2_eq]
    refine (congrArg (Option.bind · _) (rblocks_is hn hg)).trans ?_
    rw [Option.bind_some]
    dsimp only
    rw [if_neg (by simp)]
  | d + 1, k, f + 1, hk, hf => by
    obtain ⟨_, n1, n2⟩ := nb_pos hg
    obtain ⟨e, b1, b2⟩ := bS_is hg
    have hgg := hg
    unfold rgtP at hgg
    have hout : ∀ x : Bool, ((rowK cols sums g i k).length : Int) + (([x].length : Nat) : Int) ≤ lim := fun x => lim_of (by rw [rowK_len]; simp; omega)
    have ih := rknown_l2 m out hi d (k + 1) f (by omega) (by omega)
    have eg : cols.getD i [] = cols[i] := by rw [List.getD_eq_getElem?_getD, List.getElem?_eq_getElem hi]; rfl
    have hb : By (cols.getD i []) := by rw [eg]; exact hcb _ (List.getElem_mem hi)
    rw [ref25_Known.l2_eq]
    refine (congrArg (Option.bind · _) (rblocks_is hn hg)).trans ?_
    rw [Option.bind_some]
    dsimp only
    rw [if_pos (by simp; omega), if_pos (by omega), if_pos (by omega), Int.toNat_natCast, wr64 (x := 8 + g.2.2.1) (by omega) (by omega)]
    have fls : isK cols sums g i k = false → (ref25_Known.l2 n m f (cols, sums, (g.1, g.2.1, g.2.2.1, g.2.2.2.1, ()), out, (i : Int), rowK cols sums g i k ++ [false], wr .i64 ((k : Int) + 1), ())) = some (cols, sums, (g.1, g.2.1, g.2.2.1, g.2.2.2.1, ()), out, (i : Int), rowK cols sums g i (nbN g), ()) := fun h => by
      rw [← h, rowK_succ, s_int k (by omega)]; exact ih
    by_cases hc : (((cols.getD i []).length : Nat) : Int) = 8 + g.2.2.1
    case neg =>
      rw [if_neg (by simpa using hc)]
      simp only [Option.bind_some]
      rw [if_neg (by decide)]
      simp only [Option.bind_some]
      rw [if_pos (hout _)]
      exact fls (by unfold isK; rw [decide_eq_false hc, Bool.false_and])
    rw [if_pos (by simpa using hc)]
    by_cases his : i < sums.length
    case neg =>
      rw [if_neg (by simpa using his)]
      simp only [Option.bind_some]
      rw [if_neg (by decide)]
      simp only [Option.bind_some]
      rw [if_pos (hout _)]
      exact fls (by unfold isK; rw [decide_eq_false his, Bool.false_and, Bool.and_false])
    rw [if_pos (by simpa using his), if_pos (by omega), if_pos (by omega)]
    simp only [Option.bind_some]
    by_cases h : k < (sums.getD i []).length
    case neg =>
      rw [if_neg (by simpa using h)]
      simp only [Option.bind_some]
      rw [if_pos (hout _), decide_eq_false (by omega)]
      exact fls (by unfold isK; rw [decide_eq_false h, Bool.false_and, Bool.and_false, Bool.and_false])
    obtain ⟨c1, c2⟩ := nb_cut hg hc
    have hk2 := c2 k (by omega)
    have e1 : wr .i64 ((k : Int) * g.2.2.2.1) = ((k * bS g : Nat) : Int) := by
      rw [← e, show (k : Int) * (bS g : Int) = ((k * bS g : Nat) : Int) by rw [Int.natCast_mul], wr64 (by omega) (by omega)]
    have e2 : wr .i64 (wr .i64 ((k : Int) + 1) * g.2.2.2.1) = ((k * bS g + bS g : Nat) : Int) := by
      rw [s_int k (by omega), ← e, show ((k + 1 : Nat) : Int) * (bS g : Int) = ((k * bS g + bS g : Nat) : Int) by rw [← Int.natCast_mul, Nat.add_mul, Nat.one_mul], wr64 (by omega) (by omega)]
    rw [if_pos (by simpa using h), wr64 (x := 8 + g.2.2.1) (by omega) (by omega), e1, e2, held_is hn hcb hcl hsl hg (by omega) (by omega)]
    simp only [Option.bind_some]
    have e3 : (if (8 + g.2.2.1) < ((k * bS g + bS g : Nat) : Int) then 8 + g.2.2.1 else ((k * bS g + bS g : Nat) : Int)) = ((min (k * bS g + bS g) (cols.getD i []).length : Nat) : Int) := by
      rw [← hc]; split <;> omega
    rw [e3]
    simp only [Int.toNat_natCast]
    rw [if_pos (by omega), if_pos (by omega), if_pos (by omega), if_pos (by omega), if_pos (Int.ofNat_le.2 (Nat.min_le_right _ _)), if_pos (by omega), if_pos (by omega), if_pos (by omega), if_pos (by omega)]
    have e4 : List.drop (k * bS g) (List.take (min (k * bS g + bS g) (cols.getD i []).length) (cols.getD i [])) = blk (cols.getD i []) (bS g) k := by
      rw [show List.take (min (k * bS g + bS g) (cols.getD i []).length) (cols.getD i []) = List.take (k * bS g + bS g) (cols.getD i []) from by
        rw [← List.take_take, List.take_length], cut_is]
      rfl
    rw [e4, rcrc_is (l := blk (cols.getD i []) (bS g) k) (by omega) ((hb.drop _).take _) (by unfold blk; rw [List.length_take, List.length_drop]; omega) (by unfold blk; rw [List.length_take, List.length_drop]; omega)]
    simp only [Option.bind_some]
    rw [if_pos (hout _)]
    have e5 : isK cols sums g i k = (crcS (blk (cols.getD i []) (bS g) k) == (sums.getD i []).getD k 0) := by
      unfold isK
      rw [decide_eq_true hc, decide_eq_true his, decide_eq_true h, Bool.true_and, Bool.true_and, Bool.true_and]
    rw [← e5, rowK_succ, s_int k (by omega)]
    exact ih
theorem rknown_l0 : ∀ (d i f : Nat), i + d = cols.length → d < f →
    ref25_Known.l0 n n f (cols, sums, (g.1, g.2.1, g.2.2.1, g.2.2.2.1, ()), knT cols sums g i, (i : Int), ()) = some (knT cols sums g cols.length, ())
  | 0, k, 0, _, h => absurd h (by decide)
  | d + 1, k, 0, _, h => absurd h (by omega)
  | 0, i, f + 1, hk, hf => by
    obtain rfl : i = cols.length := by omega
    rw [ref25_Known.l0_eq, if_neg (by simp)]
  | d + 1, i, f + 1, hk, hf => by
    obtain ⟨_, n1, n2⟩ := nb_pos hg
    have hi : i < cols.length := by omega
    have ih := rknown_l0 d (i + 1) f (by omega) (by omega)
    have hout : ∀ x : List Bool, ((knT cols sums g i).length : Int) + (([x].length : Nat) : Int) ≤ lim := fun x => lim_of (by rw [knT_len]; simp; omega)
    have h2 := rknown_l2 hn hcb hcl hsl hg n (knT cols sums g i) hi (nbN g) 0 n (by omega) (by omega)
    rw [show ((0 : Nat) : Int) = 0 from rfl, show rowK cols sums g i 0 = [] from rfl] at h2
    rw [ref25_Known.l0_eq, if_pos (by simp; omega), h2]
    simp only [Option.bind_some]
    rw [if_pos (hout _), knT_succ, s_int i (by omega)]
    exact ih
theorem rknown_is : ref25_Known.f n (cols, sums, g, ()) = some (knT cols sums g cols.length, ()) := by
  have h := rknown_l0 hn hcb hcl hsl hg cols.length 0 n (by omega) (by omega)
  rw [ref25_Known.eq]
  refine (congrArg (Option.bind · _) h).trans ?_
  rw [Option.bind_some]
end
theorem known_not (n : Nat) (cols sums : List (List Int)) {g : Ge} (hg : ¬ rgtP g) : damage_Known.f n (cols, sums, g, ()) = some ([], ()) := by
  rw [damage_Known.eq, right_is, decide_eq_false hg, Option.bind_some, if_pos (by decide)]
end Go.Proofs.YtlioalaehkohlaaDoor.Vm

namespace Go.Proofs.YtlioalaehkohlaaDoor.Vm
open Go Go.RowKit
set_option linter.unusedVariables false
set_option linter.unusedSimpArgs false
set_option maxRecDepth 100000
theorem alive25_100 (m : Nat) : law25_alive.f (m + 100) () = some (true, ()) := by kernel_rfl
theorem alive25 {n : Nat} (h : 100 ≤ n) : law25_alive.f n () = some (true, ()) := by
  have := alive25_100 (n - 100)
  rwa [Nat.sub_add_cancel h] at this
end Go.Proofs.YtlioalaehkohlaaDoor.Vm

namespace Go.Proofs.YtlioalaehkohlaaDoor.Vm
open Go Go.RowKit
set_option linter.unusedVariables false
set_option linter.unusedSimpArgs false
set_option linter.unusedSectionVars false
set_option maxRecDepth 10000
def Ki.noL : Ki → Bool
  | .list _ => false
  | .arr _ _ => false
  | .ref _ => false
  | .nl _ => false
  | .pair a b => a.noL && b.noL
  | _ => true
theorem eqB_iff : ∀ {k : Ki}, k.noL = true → ∀ x y : k.den, Ki.eqB k x y = true ↔ x = y
  | .int _, _, x, y => by show ((x : Int) == y) = true ↔ _; exact beq_iff_eq
  | .bool, _, x, y => by show ((x : Bool) == y) = true ↔ _; exact beq_iff_eq
  | .str, _, x, y => by
    show ((x : ByteArray).toList == (y : ByteArray).toList) = true ↔ _
    rw [beq_iff_eq]
    exact ⟨toList_inj, fun h => by rw [h]⟩
  | .unit, _, x, y => ⟨fun _ => rfl, fun _ => rfl⟩
  | .pair a b, h, x, y => by
    have h' : (a.noL && b.noL) = true := h
    rw [Bool.and_eq_true] at h'
    show (a.eqB x.1 y.1 && b.eqB x.2 y.2) = true ↔ x = y
    rw [Bool.and_eq_true, eqB_iff h'.1, eqB_iff h'.2]
    exact ⟨fun h => Prod.ext h.1 h.2, fun h => by rw [h]; exact ⟨rfl, rfl⟩⟩
theorem eqG (g : Ge) : Ki.eqB (.pair (.int .i64) (.pair (.int .i64) (.pair (.int .i64) (.pair (.int .i64) .unit)))) g g = true := (eqB_iff (k := .pair (.int .i64) (.pair (.int .i64) (.pair (.int .i64) (.pair (.int .i64) .unit)))) rfl g g).2 rfl
theorem s_intM {i : Nat} (h : i < maxLen) : wr .i64 ((i : Int) + 1) = ((i + 1 : Nat) : Int) := by
  have : maxLen = 9223372036854775807 := rfl
  rw [wr64 (by omega) (by omega)]; omega
theorem few_l0 (n m : Nat) {t : List Sl} (hl : t.length ≤ maxLen) : ∀ (d i k : Nat), i + d = t.length → d < k → law25_few.l0 n m k (t, t, (t.length : Int), (i : Int), ()) = some (if (t.drop i).all (fun s => decide (s.2.1.length ≤ 400)) = true then Sum.inr (t, ()) else Sum.inl (false, ()))
  | 0, i, 0, _, h => absurd h (by decide)
  | d + 1, i, 0, _, h => absurd h (by omega)
  | 0, i, k + 1, hi, hk => by
    rw [law25_few.l0_eq, if_neg (by simp; omega), List.drop_eq_nil_of_le (by omega), if_pos (by rfl)]
  | d + 1, i, k + 1, hi, hk => by
    have ha : i < t.length := by omega
    rw [law25_few.l0_eq, if_pos (by simp; omega), if_pos (by omega), if_pos (by omega), Int.toNat_natCast, show t.getD i (false, ([], ())) = t[i] from slD ha, List.drop_eq_getElem_cons ha, List.all_cons]
    by_cases h : t[i].2.1.length > 400
    · rw [if_pos (decide_eq_true (by omega)), decide_eq_false (by omega), Bool.false_and, if_neg (by decide)]
    · rw [if_neg (by simp; omega), decide_eq_true (by omega), Bool.true_and, s_intM (by omega), few_l0 n m hl d (i + 1) k (by omega) (by omega)]
theorem few_is {n : Nat} {t : List Sl} (hl : t.length ≤ maxLen) (hn : t.length < n) : law25_few.f n (t, ()) = some (decide ((∀ s ∈ t, s.2.1.length ≤ 400) ∧ t.length ≤ 10), ()) := by
  have h := few_l0 n n hl t.length 0 n (by omega) (by omega)
  rw [show ((0 : Nat) : Int) = 0 from rfl, List.drop_zero] at h
  rw [law25_few.eq, h, Option.bind_some]
  by_cases hc : t.all (fun s => decide (s.2.1.length ≤ 400)) = true
  · rw [if_pos hc]
    have hc' : ∀ s ∈ t, s.2.1.length ≤ 400 := fun s hs => of_decide_eq_true (List.all_eq_true.1 hc s hs)
    show some (decide ((t.length : Int) ≤ 10), ()) = _
    by_cases h10 : t.length ≤ 10
    · rw [decide_eq_true (by omega), decide_eq_true ⟨hc', h10⟩]
    · rw [decide_eq_false (by omega), decide_eq_false (fun h => h10 h.2)]
  · rw [if_neg hc]
    have hc' : ¬ ∀ s ∈ t, s.2.1.length ≤ 400 := fun h => hc (List.all_eq_true.2 fun s hs => decide_eq_true (h s hs))
    show some (false, ()) = _
    rw [decide_eq_false (fun h => hc' h.1)]
theorem small_is (n : Nat) (g : Ge) : law25_small.f n (g, ()) = some (decide (¬ rgtP g ∨ (g.1 + g.2.1 ≤ 10 ∧ g.2.2.1 ≤ 60)), ()) := by
  rw [law25_small.eq, rright_is, Option.bind_some]
  dsimp only
  by_cases h : rgtP g
  · have hg := h
    unfold rgtP at hg
    rw [decide_eq_true h, if_neg (by decide), wr64 (by omega) (by omega)]
    by_cases h1 : g.1 + g.2.1 ≤ 10
    · rw [if_pos (decide_eq_true h1)]
      by_cases h2 : g.2.2.1 ≤ 60
      · rw [decide_eq_true h2, decide_eq_true (.inr ⟨h1, h2⟩)]
      · rw [decide_eq_false h2, decide_eq_false (fun k => k.elim (fun k => k h) (fun k => h2 k.2))]
    · rw [if_neg (by simpa using h1), decide_eq_false (fun k => k.elim (fun k => k h) (fun k => h1 k.1))]
  · rw [decide_eq_false h, if_pos (by decide), decide_eq_true (.inl h)]
theorem looks_l0 (n m : Nat) (t : List Sl) (sums : List (List Int)) (g0 g1 g2 g3 : Int) {kn : List (List Bool)} (hl : kn.length ≤ maxLen) : ∀ (d i k : Nat), i + d = kn.length → d < k → law25_DamageLooks.l0 n m k (t, sums, kn, (g0, g1, g2, g3, ()), kn, (kn.length : Int), (i : Int), ()) = some (if (kn.drop i).all (fun s => decide (s.length ≤ 60)) = true then Sum.inr (t, sums, kn, (g0, g1, g2, g3, ()), ()) else Sum.inl (true, ()))
  | 0, i, 0, _, h => absurd h (by decide)
  | d + 1, i, 0, _, h => absurd h (by omega)
  | 0, i, k + 1, hi, hk => by
    rw [law25_DamageLooks.l0_eq, if_neg (by simp; omega), List.drop_eq_nil_of_le (by omega), if_pos (by rfl)]
  | d + 1, i, k + 1, hi, hk => by
    have ha : i < kn.length := by omega
    rw [law25_DamageLooks.l0_eq, if_pos (by simp; omega), if_pos (by omega), if_pos (by omega), Int.toNat_natCast, bD ha, List.drop_eq_getElem_cons ha, List.all_cons]
    by_cases h : kn[i].length > 60
    · rw [if_pos (decide_eq_true (by omega)), decide_eq_false (by omega), Bool.false_and, if_neg (by decide)]
    · rw [if_neg (by simp; omega), decide_eq_true (by omega), Bool.true_and, s_intM (by omega), looks_l0 n m t sums g0 g1 g2 g3 hl d (i + 1) k (by omega) (by omega)]
theorem same6_l0 (n m : Nat) {a : List Int} (hl : a.length ≤ 1000000) : ∀ (d i k : Nat), i + d = a.length → d < k → ref06_Same.l0 n m k (a, a, (i : Int), ()) = some (Sum.inr ())
  | 0, i, 0, _, h => absurd h (by decide)
  | d + 1, i, 0, _, h => absurd h (by omega)
  | 0, i, k + 1, hi, hk => by rw [ref06_Same.l0_eq, if_neg (by simp; omega)]
  | d + 1, i, k + 1, hi, hk => by
    rw [ref06_Same.l0_eq, if_pos (by simp; omega), if_pos (by omega), if_pos (by omega), if_pos (by omega), if_pos (by omega), if_neg (by simp), s_int i (by omega)]
    exact same6_l0 n m hl d (i + 1) k (by omega) (by omega)
theorem same6_is {n : Nat} (hn : 1000000 < n) {a : List Int} (hl : a.length ≤ 1000000) : ref06_Same.f n (a, a, ()) = some (true, ()) := by
  have h := same6_l0 n n hl a.length 0 n (by omega) (by omega)
  rw [ref06_Same.eq, if_neg (by simp)]
  refine (congrArg (Option.bind · _) h).trans ?_
  rfl
theorem ssums_l0 (n m : Nat) (hn : 1000000 < n) {a : List (List Int)} (hl : a.length ≤ 1000000) (hr : ∀ r ∈ a, r.length ≤ 1000000) : ∀ (d i k : Nat), i + d = a.length → d < k → ref24_SameSums.l0 n m k (a, a, (i : Int), ()) = some (Sum.inr ())
  | 0, i, 0, _, h => absurd h (by decide)
  | d + 1, i, 0, _, h => absurd h (by omega)
  | 0, i, k + 1, hi, hk => by rw [ref24_SameSums.l0_eq, if_neg (by simp; omega)]
  | d + 1, i, k + 1, hi, hk => by
    have ha : i < a.length := by omega
    have e : a.getD i [] = a[i] := by rw [List.getD_eq_getElem?_getD, List.getElem?_eq_getElem ha]; rfl
    rw [ref24_SameSums.l0_eq, if_pos (by simp; omega), if_pos (by omega), if_pos (by omega), if_pos (by omega), if_pos (by omega), Int.toNat_natCast, e, same6_is hn (hr _ (List.getElem_mem ha)), Option.bind_some, if_neg (by decide), s_int i (by omega)]
    exact ssums_l0 n m hn hl hr d (i + 1) k (by omega) (by omega)
theorem ssums_is {n : Nat} (hn : 1000000 < n) {a : List (List Int)} (hl : a.length ≤ 1000000) (hr : ∀ r ∈ a, r.length ≤ 1000000) : ref24_SameSums.f n (a, a, ()) = some (true, ()) := by
  have h := ssums_l0 n n hn hl hr a.length 0 n (by omega) (by omega)
  rw [ref24_SameSums.eq, if_neg (by simp)]
  refine (congrArg (Option.bind · _) h).trans ?_
  rfl
theorem rows_l0 (n m : Nat) (hn : 1000000 < n) {a : List (List Int)} (hl : a.length ≤ 1000000) (hr : ∀ r ∈ a, r.length ≤ 1000000) : ∀ (d i k : Nat), i + d = a.length → d < k → ref21_Rows.l0 n m k (a, a, (i : Int), ()) = some (Sum.inr ())
  | 0, i, 0, _, h => absurd h (by decide)
  | d + 1, i, 0, _, h => absurd h (by omega)
  | 0, i, k + 1, hi, hk => by rw [ref21_Rows.l0_eq, if_neg (by simp; omega)]
  | d + 1, i, k + 1, hi, hk => by
    have ha : i < a.length := by omega
    have e : a.getD i [] = a[i] := by rw [List.getD_eq_getElem?_getD, List.getElem?_eq_getElem ha]; rfl
    have hra := hr _ (List.getElem_mem ha)
    rw [ref21_Rows.l0_eq, if_pos (by simp; omega), if_pos (by omega), if_pos (by omega), if_pos (by omega), if_pos (by omega), Int.toNat_natCast, e, same_s (by omega) (by omega), Option.bind_some, decide_eq_true rfl, if_neg (by decide), s_int i (by omega)]
    exact rows_l0 n m hn hl hr d (i + 1) k (by omega) (by omega)
theorem rows_is {n : Nat} (hn : 1000000 < n) {a : List (List Int)} (hl : a.length ≤ 1000000) (hr : ∀ r ∈ a, r.length ≤ 1000000) : ref21_Rows.f n (a, a, ()) = some (true, ()) := by
  have h := rows_l0 n n hn hl hr a.length 0 n (by omega) (by omega)
  rw [ref21_Rows.eq, if_neg (by simp)]
  refine (congrArg (Option.bind · _) h).trans ?_
  rfl
theorem bools_l2 (n m : Nat) {a : List (List Bool)} {i : Nat} (hi : i < a.length) (hr : a[i].length ≤ 1000000) : ∀ (d j k : Nat), j + d = a[i].length → d < k → ref25_SameBools.l2 n m k (a, a, (i : Int), (j : Int), ()) = some (Sum.inr (a, a, (i : Int), ()))
  | 0, j, 0, _, h => absurd h (by decide)
  | d + 1, j, 0, _, h => absurd h (by omega)
  | 0, j, k + 1, hj, hk => by rw [ref25_SameBools.l2_eq, if_pos (by omega), if_pos (by omega), Int.toNat_natCast, bD hi, if_neg (by simp; omega)]
  | d + 1, j, k + 1, hj, hk => by
    rw [ref25_SameBools.l2_eq, if_pos (by omega), if_pos (by omega), Int.toNat_natCast, bD hi, if_pos (by simp; omega), if_pos (by omega), if_pos (by omega), if_pos (by omega), if_pos (by omega), if_pos (by omega), if_pos (by omega), if_pos (by omega), if_pos (by omega), if_neg (by simp), s_int j (by omega)]
    exact bools_l2 n m hi hr d (j + 1) k (by omega) (by omega)
theorem bools_l0 (n m : Nat) (hm : 1000000 < m) {a : List (List Bool)} (hl : a.length ≤ 1000000) (hr : ∀ r ∈ a, r.length ≤ 1000000) : ∀ (d i k : Nat), i + d = a.length → d < k → ref25_SameBools.l0 n m k (a, a, (i : Int), ()) = some (Sum.inr ())
  | 0, i, 0, _, h => absurd h (by decide)
  | d + 1, i, 0, _, h => absurd h (by omega)
  | 0, i, k + 1, hi, hk => by rw [ref25_SameBools.l0_eq, if_neg (by simp; omega)]
  | d + 1, i, k + 1, hi, hk => by
    have ha : i < a.length := by omega
    have hra := hr _ (List.getElem_mem ha)
    have h2 := bools_l2 n m ha hra a[i].length 0 m (by omega) (by omega)
    rw [show ((0 : Nat) : Int) = 0 from rfl] at h2
    rw [ref25_SameBools.l0_eq, if_pos (by simp; omega), if_pos (by omega), if_pos (by omega), if_pos (by omega), if_pos (by omega), Int.toNat_natCast, if_neg (by simp), h2, Option.bind_some]
    show ref25_SameBools.l0 n m k (a, a, wr .i64 ((i : Int) + 1), ()) = _
    rw [s_int i (by omega)]
    exact bools_l0 n m hm hl hr d (i + 1) k (by omega) (by omega)
theorem bools_is {n : Nat} (hn : 1000000 < n) {a : List (List Bool)} (hl : a.length ≤ 1000000) (hr : ∀ r ∈ a, r.length ≤ 1000000) : ref25_SameBools.f n (a, a, ()) = some (true, ()) := by
  have h := bools_l0 n n hn hl hr a.length 0 n (by omega) (by omega)
  rw [ref25_SameBools.eq, if_neg (by simp)]
  refine (congrArg (Option.bind · _) h).trans ?_
  rfl
theorem parse_sums {b : List Int} (hl : b.length ≤ 1000000) : (parseS b).1.2.2.1.length ≤ 1000000 ∧ ∀ r ∈ (parseS b).1.2.2.1, r.length ≤ 1000000 := by
  have zz : zSe.2.2.1.length ≤ 1000000 ∧ ∀ r ∈ zSe.2.2.1, r.length ≤ 1000000 := ⟨by decide, fun r hr => by cases hr⟩
  unfold parseS
  split
  · split
    · exact zz
    · split
      · rename_i hC
        split
        · exact zz
        · rename_i hh
          have hg := hC.2.1
          obtain ⟨k1, k2, k3⟩ := cn_nb hg
          obtain ⟨_, k4⟩ := cnb_le hg
          have hhd : hdN (gB b) = 24 + 4 * (cN (gB b) * nbN (gB b)) := rfl
          split
          · exact zz
          · split
            · exact zz
            · split
              · exact zz
              · refine ⟨by show (sumT b _ _).length ≤ _; rw [sumT_len]; omega, fun r hr => ?_⟩
                obtain ⟨j, _, rfl⟩ := List.mem_map.1 (show r ∈ (List.range _).map _ from hr)
                rw [rowT_len]; omega
      · exact zz
  · exact zz
theorem find_sums {t : List Sl} (ht : SlOk t) : ∀ (i : Nat) (s : Se), findL i t = some s → s.2.2.1.length ≤ 1000000 ∧ ∀ r ∈ s.2.2.1, r.length ≤ 1000000 := by
  induction t with
  | nil => intro i s h; cases h
  | cons x r ih =>
    intro i s h
    unfold findL at h
    split at h
    · cases h; exact parse_sums (ht x (List.mem_cons_self ..)).2
    · exact ih (fun y hy => ht y (List.mem_cons_of_mem _ hy)) _ _ h
theorem findA_sums {t : List Sl} (ht : SlOk t) : (findA t).1.2.2.1.length ≤ 1000000 ∧ ∀ r ∈ (findA t).1.2.2.1, r.length ≤ 1000000 := by
  unfold findA
  cases h : findL 0 t with
  | none => exact ⟨by decide, fun r hr => by cases hr⟩
  | some s => exact find_sums ht 0 s h
theorem colS_ok {g : Ge} (hg : rgtP g) {s : Sl} (hb : By s.2.1) (hl : s.2.1.length ≤ 1000000) (i : Nat) : By ((colS g s i).getD []) ∧ ((colS g s i).getD []).length ≤ 16777300 := by
  have hgg := hg
  unfold rgtP at hgg
  unfold colS
  split
  · split
    · split
      · exact ⟨hb.drop _, by show (List.drop _ _).length ≤ _; rw [List.length_drop]; omega⟩
      · exact ⟨By.nil, by decide⟩
    · split
      · split
        · rename_i h
          have := colB_len h
          exact ⟨colB_by _ hb, by show (colB _ _).length ≤ _; omega⟩
        · exact ⟨By.nil, by decide⟩
      · exact ⟨By.nil, by decide⟩
  · exact ⟨By.nil, by decide⟩
theorem slD_by {t : List Sl} (ht : SlOk t) (i : Nat) : By (t.getD i zSl).2.1 := by
  by_cases h : i < t.length
  · rw [slD h]; exact (ht _ (List.getElem_mem h)).1
  · rw [slN h]; exact By.nil
theorem colT_ok {t : List Sl} (ht : SlOk t) {g : Ge} (hg : rgtP g) (hS : g.2.2.1 ≤ 60) (i : Nat) : ∀ c ∈ colT t g i, By c ∧ c.length ≤ 1000000 := by
  intro c hc
  obtain ⟨j, _, rfl⟩ := List.mem_map.1 (show c ∈ (List.range _).map _ from hc)
  have h := colS_ok hg (slD_by ht j) (slD_len (fun s hs => (ht s hs).2) j) j
  refine ⟨h.1, ?_⟩
  unfold colS
  split
  · split
    · split
      · show (List.drop _ _).length ≤ _
        have := slD_len (t := t) (fun s hs => (ht s hs).2) j
        rw [List.length_drop]; omega
      · exact Nat.zero_le _
    · split
      · split
        · rename_i h
          have := colB_len h
          show (colB _ _).length ≤ _
          omega
        · exact Nat.zero_le _
      · exact Nat.zero_le _
  · exact Nat.zero_le _
theorem knT_ok (cols sums : List (List Int)) {g : Ge} (hg : rgtP g) (hS : g.2.2.1 ≤ 60) (i : Nat) : ∀ r ∈ knT cols sums g i, r.length ≤ 1000000 := by
  intro c hc
  obtain ⟨j, _, rfl⟩ := List.mem_map.1 (show c ∈ (List.range _).map _ from hc)
  obtain ⟨e, h1, h2⟩ := nb_pos hg
  have hgg := hg
  unfold rgtP at hgg
  rw [rowK_len]
  have h3 : (8 + g.2.2.1 + g.2.2.2.1 - 1) / g.2.2.2.1 < 1000001 := by
    apply Int.ediv_lt_of_lt_mul (by omega)
    have : 1000001 * 1 ≤ 1000001 * g.2.2.2.1 := Int.mul_le_mul_of_nonneg_left (by omega) (by decide)
    omega
  omega
theorem damageLooks {n : Nat} (hn : 16777300 ≤ n) {t : List Sl} (ht : ∀ s ∈ t, By s.2.1) (g : Ge) (sums : List (List Int)) {kn : List (List Bool)} (hlt : t.length ≤ maxLen) (hlk : kn.length ≤ maxLen) (hnt : t.length < n) (hnk : kn.length < n) : law25_DamageLooks.f n (t, g, sums, kn, ()) = some (true, ()) := by
  rw [law25_DamageLooks.eq, alive25 (by omega), Option.bind_some, if_neg (show ¬ ((!true) = true) by decide)]
  have h0 := looks_l0 n n t sums g.1 g.2.1 g.2.2.1 g.2.2.2.1 hlk kn.length 0 n (by omega) (by omega)
  rw [show ((0 : Nat) : Int) = 0 from rfl, List.drop_zero] at h0
  refine (congrArg (Option.bind · _) h0).trans ?_
  rw [Option.bind_some]
  by_cases hk : kn.all (fun s => decide (s.length ≤ 60)) = true
  case neg => rw [if_neg hk]; rfl
  have hk' : ∀ s ∈ kn, s.length ≤ 60 := fun s hs => of_decide_eq_true (List.all_eq_true.1 hk s hs)
  rw [if_pos hk]
  show (law25_few.f n (t, ())).bind _ = _
  rw [few_is hlt hnt, Option.bind_some]
  by_cases hf : (∀ s ∈ t, s.2.1.length ≤ 400) ∧ t.length ≤ 10
  case neg => rw [decide_eq_false hf, if_pos (by decide)]
  rw [decide_eq_true hf, if_neg (by decide)]
  dsimp only
  refine (congrArg (Option.bind · _) (small_is n g)).trans ?_
  rw [Option.bind_some]
  by_cases hs : ¬ rgtP g ∨ (g.1 + g.2.1 ≤ 10 ∧ g.2.2.1 ≤ 60)
  case neg => rw [decide_eq_false hs, if_pos (by decide)]
  rw [decide_eq_true hs, if_neg (by decide)]
  by_cases h20 : sums.length > 20
  · rw [if_pos (decide_eq_true (by omega))]
  rw [if_neg (by simp; omega)]
  by_cases k20 : kn.length > 20
  · rw [if_pos (decide_eq_true (by omega))]
  rw [if_neg (by simp; omega)]
  have hok : SlOk t := fun s hs => ⟨ht s hs, by have := hf.1 s hs; omega⟩
  have hlen : SlLen t := fun s hs => (hok s hs).2
  obtain ⟨q1, q2⟩ := findA_sums hok
  rw [find_is hn hok (by omega) hnt, Option.bind_some, rfind_is hn hok (by omega) hnt, Option.bind_some, if_neg (by simp), if_neg (by rw [eqG]; decide), if_neg (by simp), ssums_is (by omega) q1 q2, Option.bind_some, if_neg (by decide)]
  rw [worst_is (n := n) (by omega) (by omega) (fun c hc => by have := hk' c hc; omega), Option.bind_some, rworst_is (n := n) (by omega) (by omega) (fun c hc => by have := hk' c hc; omega), Option.bind_some, if_neg (by simp)]
  by_cases hg : rgtP g
  case neg =>
    refine (congrArg (Option.bind · _) (cols_not n t hg)).trans ?_
    rw [Option.bind_some]
    refine (congrArg (Option.bind · _) (rright_is n g)).trans ?_
    rw [Option.bind_some, decide_eq_false hg, if_pos (by decide), if_pos (by rfl), if_pos (by rfl)]
    refine (congrArg (Option.bind · _) (known_not n [] sums hg)).trans ?_
    rfl
  have hS : g.2.2.1 ≤ 60 := hs.elim (fun h => absurd hg h) (fun h => h.2)
  obtain ⟨e1, c1, c2⟩ := cn_nb hg
  have hcols := colT_ok hok hg hS (cN g)
  refine (congrArg (Option.bind · _) (cols_is hn hlen hg)).trans ?_
  rw [Option.bind_some]
  refine (congrArg (Option.bind · _) (rright_is n g)).trans ?_
  rw [Option.bind_some, decide_eq_true hg, if_neg (by decide)]
  refine (congrArg (Option.bind · _) (rcols_is hn hlen hg)).trans ?_
  rw [Option.bind_some]
  dsimp only
  rw [rows_is (by omega) (by rw [colT_len]; omega) (fun r hr => (hcols r hr).2), Option.bind_some, if_neg (by decide)]
  have hb1 : ∀ r ∈ [thT t g (cN g)], r.length ≤ 1000000 := fun r hr => by
    obtain rfl := List.mem_singleton.1 hr
    rw [thT_len]; omega
  rw [bools_is (a := [thT t g (cN g)]) (by omega) (show 1 ≤ 1000000 by decide) hb1, Option.bind_some, if_neg (by decide)]
  have hkn := known_is hn (cols := colT t g (cN g)) (sums := sums) (fun c hc => (hcols c hc).1) (by rw [colT_len]; omega) (by omega) hg
  have hrk := rknown_is hn (cols := colT t g (cN g)) (sums := sums) (fun c hc => (hcols c hc).1) (by rw [colT_len]; omega) (by omega) hg
  refine (congrArg (Option.bind · _) hkn).trans ?_
  rw [Option.bind_some]
  refine (congrArg (Option.bind · _) hrk).trans ?_
  rw [Option.bind_some]
  dsimp only
  rw [bools_is (by omega) (by rw [knT_len, colT_len]; omega) (knT_ok _ _ hg hS _), Option.bind_some]
theorem wf_of {k : IntKind} {x : Int} (h : (Lit.int k x).wf = true) : k.min ≤ x ∧ x ≤ k.max := by
  have h' : (decide (k.min ≤ x) && decide (x ≤ k.max)) = true := h
  rw [Bool.and_eq_true] at h'
  exact ⟨of_decide_eq_true h'.1, of_decide_eq_true h'.2⟩
theorem wf_u8 {x : Int} (h : (Lit.int .u8 x).wf = true) : 0 ≤ x ∧ x < 256 := by
  obtain ⟨h1, h2⟩ := wf_of h
  have e1 : IntKind.min .u8 = 0 := rfl
  have e2 : IntKind.max .u8 = 255 := rfl
  omega
theorem by_of {l : List Int} (h : KWf (.list (.int .u8)) l) : By l := fun x hx => wf_u8 (h.2 x hx)
abbrev SlK : Ki := .pair .bool (.pair (.list (.int .u8)) .unit)
abbrev GeK : Ki := .pair (.int .i64) (.pair (.int .i64) (.pair (.int .i64) (.pair (.int .i64) .unit)))
theorem pure_DamageLooks (z0 : (Ki.list SlK).den) (z1 : GeK.den) (z2 : (Ki.list (.list (.int .u32))).den) (z3 : (Ki.list (.list .bool)).den) (f0 : KWf (.list SlK) z0) (f1 : KWf GeK z1) (f2 : KWf (.list (.list (.int .u32))) z2) (f3 : KWf (.list (.list .bool)) z3) : ∃ n, law25_DamageLooks.f n (z0, z1, z2, z3, ()) = some (true, ()) :=
  ⟨16778000 + List.length z0 + List.length z3, damageLooks (by omega) (fun s hs => by_of (f0.2 s hs).2.1) z1 z2 f0.1 f3.1 (by omega) (by omega)⟩
end Go.Proofs.YtlioalaehkohlaaDoor.Vm

