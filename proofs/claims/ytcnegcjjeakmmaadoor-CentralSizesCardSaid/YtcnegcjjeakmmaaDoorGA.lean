/- Joined texts of own work. Conditions: as each theorem states them. -/
import Derived.Test.YtcnegcjjeakmmaaDoorYz
namespace Go.Proofs.YtcnegcjjeakmmaaDoor.Vm
open Go Go.RowKit
set_option linter.unusedVariables false
set_option linter.unusedSimpArgs false
set_option maxRecDepth 10000
theorem wr64 {x : Int} (h : -9223372036854775808 ≤ x) (h' : x < 9223372036854775808) : wr .i64 x = x := by rw [wr_eq, IntKind.wrap_i64]; omega
theorem wru64 {x : Int} (h : 0 ≤ x) (h' : x < 18446744073709551616) : wr .u64 x = x := by rw [wr_eq, IntKind.wrap_u64]; omega
theorem wru64_mod (x : Int) : wr .u64 x = x % 18446744073709551616 := by rw [wr_eq, IntKind.wrap_u64]
theorem wru8 (x : Int) : wr .u8 x = x % 256 := by rw [wr_eq, IntKind.wrap_u8]
theorem wru16 (x : Int) : wr .u16 x = x % 65536 := by rw [wr_eq]; simp [IntKind.wrap, IntKind.bits, IntKind.signed]
theorem wru32 (x : Int) : wr .u32 x = x % 4294967296 := by rw [wr_eq, IntKind.wrap_u32]
theorem shr8 (x : Int) : shrV .u64 x 8 = x / 256 := by
  unfold shrV
  show Int.fdiv x (2 ^ min (Int.toNat 8) 64) = _
  rw [Int.fdiv_eq_ediv_of_nonneg _ (by decide)]
  rfl
theorem lim_of {x : Int} (h : x ≤ 4294967296) : x ≤ lim := h
/-- bytes -/
def By (l : List Int) : Prop := ∀ x ∈ l, 0 ≤ x ∧ x < 256
theorem By.nil : By [] := fun x h => by cases h
theorem By.cons {a : Int} {l : List Int} (h0 : 0 ≤ a) (h1 : a < 256) (h : By l) : By (a :: l) := fun x hx => by
  rcases List.mem_cons.1 hx with rfl | hx
  · exact ⟨h0, h1⟩
  · exact h x hx
theorem By.head {a : Int} {l : List Int} (h : By (a :: l)) : 0 ≤ a ∧ a < 256 := h a (List.mem_cons_self ..)
theorem By.tail {a : Int} {l : List Int} (h : By (a :: l)) : By l := fun x hx => h x (List.mem_cons_of_mem _ hx)
theorem By.drop {l : List Int} (h : By l) (i : Nat) : By (l.drop i) := fun x hx => h x (List.mem_of_mem_drop hx)
theorem By.take {l : List Int} (h : By l) (i : Nat) : By (l.take i) := fun x hx => h x (List.mem_of_mem_take hx)
theorem By.append {l m : List Int} (h : By l) (h' : By m) : By (l ++ m) := fun x hx => by
  rcases List.mem_append.1 hx with hx | hx
  · exact h x hx
  · exact h' x hx
theorem By.getD {l : List Int} (h : By l) (i : Nat) : 0 ≤ l.getD i 0 ∧ l.getD i 0 < 256 := by
  rw [List.getD_eq_getElem?_getD]
  cases hi : l[i]? with
  | none => simp
  | some x => exact h x (List.mem_of_getElem? hi)
/-- a number's lowest bytes -/
def le : Nat → Int → List Int
  | 0, _ => []
  | k + 1, x => x % 256 :: le k (x / 256)
/-- the number of bytes -/
def ge : List Int → Int
  | [] => 0
  | a :: r => a + 256 * ge r
theorem le_len : ∀ (k : Nat) (x : Int), (le k x).length = k
  | 0, _ => rfl
  | k + 1, x => congrArg (· + 1) (le_len k _)
theorem le_by : ∀ (k : Nat) (x : Int), By (le k x)
  | 0, _ => By.nil
  | k + 1, x => By.cons (Int.emod_nonneg _ (by decide)) (Int.emod_lt_of_pos _ (by decide)) (le_by k _)
theorem ge_nonneg : ∀ {l : List Int}, By l → 0 ≤ ge l
  | [], _ => Int.le_refl _
  | a :: r, h => by have := ge_nonneg h.tail; have := h.head; show 0 ≤ a + 256 * ge r; omega
theorem ge_lt : ∀ {l : List Int}, By l → ge l < 256 ^ l.length
  | [], _ => by decide
  | a :: r, h => by
    have h1 := ge_lt h.tail
    have h2 := h.head
    show a + 256 * ge r < 256 ^ (r.length + 1)
    rw [Int.pow_succ]; omega
theorem ge_le : ∀ (k : Nat) {x : Int}, 0 ≤ x → x < 256 ^ k → ge (le k x) = x
  | 0, x, h0, h1 => by simp at h1; show (0 : Int) = x; omega
  | k + 1, x, h0, h1 => by
    rw [Int.pow_succ] at h1
    show x % 256 + 256 * ge (le k (x / 256)) = x
    rw [ge_le k (by omega) (by omega)]; omega
theorem le_ge : ∀ {l : List Int}, By l → le l.length (ge l) = l
  | [], _ => rfl
  | a :: r, h => by
    have h2 := h.head
    show (a + 256 * ge r) % 256 :: le r.length ((a + 256 * ge r) / 256) = _
    rw [show (a + 256 * ge r) % 256 = a by omega, show (a + 256 * ge r) / 256 = ge r by omega, le_ge h.tail]
theorem le_inj (k : Nat) {x y : Int} (hx : 0 ≤ x) (hx' : x < 256 ^ k) (hy : 0 ≤ y) (hy' : y < 256 ^ k) (h : le k x = le k y) : x = y := by
  rw [← ge_le k hx hx', ← ge_le k hy hy', h]
theorem le_mod : ∀ (k : Nat) (x : Int), le k (x % 256 ^ k) = le k x
  | 0, _ => rfl
  | k + 1, x => by
    have hp : (0 : Int) < 256 ^ k := Int.pow_pos (by decide)
    show x % 256 ^ (k + 1) % 256 :: le k (x % 256 ^ (k + 1) / 256) = x % 256 :: le k (x / 256)
    have e1 : x % 256 ^ (k + 1) % 256 = x % 256 := by
      rw [Int.pow_succ]; exact Int.emod_emod_of_dvd _ (Int.dvd_mul_left ..)
    have e2 : x % 256 ^ (k + 1) / 256 = (x / 256) % 256 ^ k := by
      rw [Int.pow_succ, Int.mul_comm]
      have h1 := Int.emod_def x (256 * 256 ^ k)
      rw [h1, Int.emod_def (x / 256) (256 ^ k), Int.ediv_ediv_of_nonneg (by decide : (0 : Int) ≤ 256), Int.mul_assoc]
      omega
    rw [e1, e2, le_mod k]
theorem held_le (s : Int) (h0 : 0 ≤ s) (h8 : s ≤ 8) (n : Nat) : little_held.f n (s, ()) = some (s, ()) := by
  rw [little_held.eq, if_neg (show ¬ s < 0 by omega), if_neg (by omega)]
theorem put_l0 (n m : Nat) : ∀ (d k : Nat) (x : Int) (out : List Int) (c i : Int), i + d = c → 0 ≤ i → c ≤ 8 → out.length + d ≤ 1000 → d < k → little_Put.l0 n m k (x, out, c, i, ()) = some (out ++ le d x, ())
  | 0, 0, _, _, _, _, _, _, _, _, h => absurd h (by decide)
  | d + 1, 0, _, _, _, _, _, _, _, _, h => absurd h (by omega)
  | 0, k + 1, x, out, c, i, h, h0, h8, hl, hk => by
    rw [little_Put.l0_eq, if_neg (by simp; omega)]
    simp [le]
  | d + 1, k + 1, x, out, c, i, h, h0, h8, hl, hk => by
    rw [little_Put.l0_eq, if_pos (by simp; omega), if_pos (lim_of (by simp; omega)), wru8, shr8, wr64 (by omega) (by omega), put_l0 n m d k (x / 256) (out ++ [x % 256]) c (i + 1) (by omega) (by omega) h8 (by simp; omega) (by omega)]
    simp [le]
theorem put_is {n : Nat} (hn : 9 ≤ n) (x s : Int) (h0 : 0 ≤ s) (h8 : s ≤ 8) : little_Put.f n (x, s, ()) = some (le s.toNat x, ()) := by
  rw [little_Put.eq, held_le s h0 h8, Option.bind_some, put_l0 n n s.toNat n x [] s 0 (by omega) (by omega) h8 (by simp; omega) (by omega)]
  simp
theorem rput_l0 (n m : Nat) : ∀ (d k : Nat) (x : Int) (out : List Int) (c i : Int), i + d = c → 0 ≤ i → c ≤ 8 → out.length + d ≤ 1000 → d < k → 0 ≤ x → x < 18446744073709551616 → ref07_Put.l0 n m k (x, c, out, i, ()) = some (out ++ le d x, ())
  | 0, 0, _, _, _, _, _, _, _, _, h, _, _ => absurd h (by decide)
  | d + 1, 0, _, _, _, _, _, _, _, _, h, _, _ => absurd h (by omega)
  | 0, k + 1, x, out, c, i, h, h0, h8, hl, hk, hx, hx' => by
    rw [ref07_Put.l0_eq, if_neg (by simp; omega)]
    simp [le]
  | d + 1, k + 1, x, out, c, i, h, h0, h8, hl, hk, hx, hx' => by
    have e1 : x.tdiv 256 = x / 256 := Int.tdiv_eq_ediv_of_nonneg hx
    have e2 : x.tmod 256 = x % 256 := Int.tmod_eq_emod_of_nonneg hx
    rw [ref07_Put.l0_eq, if_pos (by simp; omega), if_pos (by simp; omega), if_pos (lim_of (by simp; omega)), e1, e2, wru8, wru64 (by omega) (by omega), wr64 (by omega) (by omega), rput_l0 n m d k (x / 256) (out ++ [x % 256 % 256]) c (i + 1) (by omega) (by omega) h8 (by simp; omega) (by omega) (by omega) (by omega)]
    simp [le]
theorem rput_is {n : Nat} (hn : 9 ≤ n) (x s : Int) (hx : 0 ≤ x) (hx' : x < 18446744073709551616) (h0 : 0 ≤ s) (h8 : s ≤ 8) : ref07_Put.f n (x, s, ()) = some (le s.toNat x, ()) := by
  rw [ref07_Put.eq, rput_l0 n n s.toNat n x [] s 0 (by omega) (by omega) h8 (by simp; omega) (by omega) hx hx']
  simp
theorem or_nat (y b : Nat) (h1 : y ||| b = y + b) (h2 : y + b < 18446744073709551616) : bor .u64 ((y : Nat) : Int) ((b : Nat) : Int) = ((y + b : Nat) : Int) := by
  have hy : y < 18446744073709551616 := Nat.lt_of_le_of_lt (Nat.le_add_right y b) h2
  have hb : b < 18446744073709551616 := Nat.lt_of_le_of_lt (Nat.le_add_left b y) h2
  have m1 : y % 18446744073709551616 = y := Nat.mod_eq_of_lt hy
  have m2 : b % 18446744073709551616 = b := Nat.mod_eq_of_lt hb
  have w1 : wr IntKind.u64 (((y + b : Nat) : Int)) = ((y + b : Nat) : Int) := by
    clear h1
    exact wru64 (by omega) (by omega)
  show wr IntKind.u64 ((BitVec.ofInt 64 ((y : Nat) : Int) ||| BitVec.ofInt 64 ((b : Nat) : Int)).toNat : Int) = _
  simp only [BitVec.ofInt_natCast, BitVec.toNat_or, BitVec.toNat_ofNat]
  rw [show (2 : Nat) ^ 64 = 18446744073709551616 from rfl, m1, m2, h1, w1]
theorem or_add {x b : Int} (hx0 : 0 ≤ x) (hx : x < 72057594037927936) (hb0 : 0 ≤ b) (hb : b < 256) : bor .u64 (shlV .u64 x 8) (wr .u64 b) = x * 256 + b := by
  have e : shlV .u64 x 8 = x * 256 := by
    show wr .u64 (x * 2 ^ min (Int.toNat 8) 64) = _
    rw [show (2 : Int) ^ min (Int.toNat 8) 64 = 256 from rfl, wru64 (by omega) (by omega)]
  rw [e, wru64 hb0 (by omega)]
  obtain ⟨y, rfl⟩ := Int.eq_ofNat_of_zero_le hx0
  obtain ⟨c, rfl⟩ := Int.eq_ofNat_of_zero_le hb0
  have := Nat.two_pow_add_eq_or_of_lt (i := 8) (b := c) (by omega) y
  rw [show (2 : Nat) ^ 8 = 256 from rfl, Nat.mul_comm] at this
  have h3 := or_nat (y * 256) c this.symm (by omega)
  rw [show ((y : Int) * 256) = ((y * 256 : Nat) : Int) by omega, h3]
  omega
theorem ge_drop {l : List Int} {i : Nat} (h : i < l.length) : ge (l.drop i) = l.getD i 0 + 256 * ge (l.drop (i + 1)) := by
  rw [List.drop_eq_getElem_cons h, List.getD_eq_getElem?_getD, List.getElem?_eq_getElem h]; rfl
theorem pow_le7 {n : Nat} (h : n ≤ 7) : (256 : Int) ^ n ≤ 72057594037927936 := by
  have : 256 ^ n ≤ 256 ^ 7 := Nat.pow_le_pow_right (by decide) h
  have h2 : (((256 ^ n : Nat)) : Int) ≤ ((256 ^ 7 : Nat) : Int) := Int.ofNat_le.2 this
  simpa using h2
theorem get_l0 (n m : Nat) {l : List Int} (hb : By l) (h8 : l.length ≤ 8) : ∀ (i k : Nat), i ≤ l.length → i < k → little_Get.l0 n m k (l, ge (l.drop i), (i : Int) - 1, ()) = some (ge l, ())
  | 0, 0, _, h => absurd h (by decide)
  | i + 1, 0, _, h => absurd h (by omega)
  | 0, k + 1, hi, hk => by
    rw [little_Get.l0_eq, if_neg (by simp)]
    simp
  | i + 1, k + 1, hi, hk => by
    have h1 := ge_lt (hb.drop (i + 1))
    have h2 := pow_le7 (n := (l.drop (i + 1)).length) (by rw [List.length_drop]; omega)
    have h3 := hb.getD i
    have e : (((i + 1 : Nat) : Int) - 1).toNat = i := by omega
    rw [little_Get.l0_eq, if_pos (by simp), if_pos (by omega), if_pos (by omega), e, or_add (ge_nonneg (hb.drop _)) (by omega) h3.1 h3.2, show ge (l.drop (i + 1)) * 256 + l.getD i 0 = ge (l.drop i) by rw [ge_drop (l := l) (i := i) (by omega)]; omega, wr64 (by omega) (by omega), show ((i + 1 : Nat) : Int) - 1 - 1 = (i : Int) - 1 by omega]
    exact get_l0 n m hb h8 i k (by omega) (by omega)
theorem get_is {n : Nat} (hn : 9 ≤ n) {l : List Int} (hb : By l) (h8 : l.length ≤ 8) : little_Get.f n (l, ()) = some (ge l, ()) := by
  rw [little_Get.eq, if_neg (by omega), wr64 (by omega) (by omega)]
  have := get_l0 n n hb h8 l.length n (Nat.le_refl _) (by omega)
  rw [List.drop_length] at this
  rw [show ge [] = 0 from rfl] at this
  rw [this]; rfl
theorem ge_take {l : List Int} : ∀ {i : Nat}, i < l.length → ge (l.take (i + 1)) = ge (l.take i) + l.getD i 0 * 256 ^ i := by
  induction l with
  | nil => intro i h; simp at h
  | cons a r ih =>
    intro i h
    cases i with
    | zero => simp [ge]
    | succ i =>
      rw [List.take_succ_cons, List.take_succ_cons]
      show a + 256 * ge (r.take (i + 1)) = a + 256 * ge (r.take i) + r.getD i 0 * 256 ^ (i + 1)
      rw [ih (by simpa using h), Int.pow_succ, Int.mul_add, ← Int.mul_assoc (r.getD i 0), Int.mul_comm (r.getD i 0 * 256 ^ i) 256]
      omega
theorem pow_le8 {n : Nat} (h : n ≤ 8) : (256 : Int) ^ n ≤ 18446744073709551616 := by
  have : 256 ^ n ≤ 256 ^ 8 := Nat.pow_le_pow_right (by decide) h
  have h2 : (((256 ^ n : Nat)) : Int) ≤ ((256 ^ 8 : Nat) : Int) := Int.ofNat_le.2 this
  simpa using h2
theorem rget_l0 (n m : Nat) {l : List Int} (hb : By l) (h8 : l.length ≤ 8) : ∀ (d i k : Nat) (y : Int), i + d = l.length → d < k → (i < 8 → y = 256 ^ i) → ref07_Get.l0 n m k (l, ge (l.take i), y, (i : Int), ()) = some (ge l, ())
  | 0, i, 0, _, _, h, _ => absurd h (by decide)
  | d + 1, i, 0, _, _, h, _ => absurd h (by omega)
  | 0, i, k + 1, y, hi, hk, hy => by
    rw [ref07_Get.l0_eq, if_neg (by simp; omega), List.take_of_length_le (by omega)]
  | d + 1, i, k + 1, y, hi, hk, hy => by
    have hy := hy (by omega)
    subst hy
    have h3 := hb.getD i
    have h4 := ge_take (l := l) (i := i) (by omega)
    have h5 := ge_lt (hb.take (i + 1))
    have h6 := ge_nonneg (hb.take (i + 1))
    have h0 := ge_nonneg (hb.take i)
    have h7 : (256 : Int) ^ (l.take (i + 1)).length ≤ 18446744073709551616 := pow_le8 (by rw [List.length_take]; omega)
    have hp : (0 : Int) ≤ l.getD i 0 * 256 ^ i := Int.mul_nonneg h3.1 (Int.le_of_lt (Int.pow_pos (by decide)))
    have e : ((i : Int)).toNat = i := by omega
    rw [ref07_Get.l0_eq, if_pos (by simp; omega), if_pos (by simp; omega), if_pos (by omega), if_pos (by omega), e, wru64 h3.1 (by omega), wru64 hp (by omega), wru64 (by omega) (by omega), ← h4, wr64 (x := (i : Int) + 1) (by omega) (by omega), show (i : Int) + 1 = ((i + 1 : Nat) : Int) by omega]
    refine rget_l0 n m hb h8 d (i + 1) k _ (by omega) (by omega) (fun hi8 => ?_)
    have h9 : (256 : Int) ^ (i + 1) ≤ 72057594037927936 := pow_le7 (by omega)
    rw [← Int.pow_succ, wru64 (Int.le_of_lt (Int.pow_pos (by decide))) (by omega)]
theorem rget_is {n : Nat} (hn : 9 ≤ n) {l : List Int} (hb : By l) (h8 : l.length ≤ 8) : ref07_Get.f n (l, ()) = some (ge l, ()) := by
  rw [ref07_Get.eq]
  have := rget_l0 n n hb h8 l.length 0 n 1 (by omega) (by omega) (fun _ => rfl)
  rw [show ge (l.take 0) = 0 from rfl] at this
  rw [show ((0 : Nat) : Int) = 0 from rfl] at this
  rw [this]; rfl
end Go.Proofs.YtcnegcjjeakmmaaDoor.Vm

namespace Go.Proofs.YtcnegcjjeakmmaaDoor.Vm
open Go Go.RowKit
set_option linter.unusedVariables false
set_option linter.unusedSimpArgs false
set_option maxRecDepth 10000
theorem copy_is (n : Nat) {l : List Int} (h : l.length ≤ 4294967296) : ref01_Copy.f n (l, ()) = some (l, ()) := by
  rw [ref01_Copy.eq, if_pos (lim_of (by simp; omega))]; rfl
theorem clone_is (n : Nat) {l : List Int} (h : l.length ≤ 4294967296) : slices_Clone_byte_byte.f n (l, ()) = some (l, ()) :=
  if_pos (lim_of (show (List.length l : Int) ≤ 4294967296 by omega))
theorem getD_eq {l : List Int} {i : Nat} (h : i < l.length) : l.getD i 0 = l[i] := by
  rw [List.getD_eq_getElem?_getD, List.getElem?_eq_getElem h]; rfl
theorem same_l0 (n m : Nat) {a b : List Int} (hab : a.length = b.length) (hl : a.length < 4611686018427387904) : ∀ (d i k : Nat), i + d = a.length → d < k → ref01_Same.l0 n m k (a, b, (i : Int), ()) = some (if a.drop i = b.drop i then Sum.inr () else Sum.inl (false, ()))
  | 0, i, 0, _, h => absurd h (by decide)
  | d + 1, i, 0, _, h => absurd h (by omega)
  | 0, i, k + 1, hi, hk => by
    rw [ref01_Same.l0_eq, if_neg (by simp; omega), List.drop_eq_nil_of_le (by omega), List.drop_eq_nil_of_le (by omega), if_pos rfl]
  | d + 1, i, k + 1, hi, hk => by
    have ha : i < a.length := by omega
    have hb : i < b.length := by omega
    have e : ((i : Int)).toNat = i := by omega
    rw [ref01_Same.l0_eq, if_pos (by simp; omega), if_pos (by omega), if_pos (by omega), if_pos (by omega), if_pos (by omega), e, getD_eq ha, getD_eq hb, List.drop_eq_getElem_cons ha, List.drop_eq_getElem_cons hb]
    by_cases hx : a[i] = b[i]
    · rw [if_neg (by simp [hx]), wr64 (by omega) (by omega), show (i : Int) + 1 = ((i + 1 : Nat) : Int) by omega, same_l0 n m hab hl d (i + 1) k (by omega) (by omega)]
      simp only [List.cons.injEq, hx, true_and]
    · rw [if_pos (by simp [hx]), if_neg (fun h => hx (List.cons.inj h).1)]
theorem same_is {n : Nat} {a b : List Int} (hl : a.length < n) (hn : n < 4611686018427387904) : ref01_Same.f n (a, b, ()) = some (decide (a = b), ()) := by
  rw [ref01_Same.eq]
  by_cases hab : a.length = b.length
  · rw [if_neg (by simp [hab])]
    have := same_l0 n n hab (by omega) a.length 0 n (by omega) (by omega)
    rw [show ((0 : Nat) : Int) = 0 from rfl] at this
    rw [this, Option.bind_some]
    by_cases h : a = b
    · simp [h]
    · simp [h]
  · rw [if_pos (by simp; omega)]
    have : a ≠ b := fun h => hab (by rw [h])
    simp [this]
theorem join_l0 (n m : Nat) {xs : List (List Int)} (hl : xs.flatten.length ≤ 4294967296) (hx : xs.length < 4611686018427387904) : ∀ (d i k : Nat), i + d = xs.length → d < k → ref01_Join.l0 n m k (xs, (xs.take i).flatten, (i : Int), ()) = some (xs.flatten, ())
  | 0, i, 0, _, h => absurd h (by decide)
  | d + 1, i, 0, _, h => absurd h (by omega)
  | 0, i, k + 1, hi, hk => by
    rw [ref01_Join.l0_eq, if_neg (by simp; omega), List.take_of_length_le (by omega)]
  | d + 1, i, k + 1, hi, hk => by
    have hi' : i < xs.length := by omega
    have e : ((i : Int)).toNat = i := by omega
    have e2 : xs.getD i [] = xs[i] := by rw [List.getD_eq_getElem?_getD, List.getElem?_eq_getElem hi']; rfl
    have e3 : (xs.take i).flatten ++ xs[i] = (xs.take (i + 1)).flatten := by
      rw [List.take_add_one, List.getElem?_eq_getElem hi', List.flatten_append]
      simp only [Option.toList_some, List.flatten_cons, List.flatten_nil, List.append_nil]
    have e4 : (xs.take (i + 1)).flatten.length ≤ xs.flatten.length := by
      have : xs.flatten = (xs.take (i + 1)).flatten ++ (xs.drop (i + 1)).flatten := by rw [← List.flatten_append, List.take_append_drop]
      rw [this, List.length_append]; omega
    rw [← e3, List.length_append] at e4
    rw [ref01_Join.l0_eq, if_pos (by simp; omega), if_pos (by omega), if_pos (by omega), e, e2, if_pos (lim_of (by omega)), e3, wr64 (by omega) (by omega), show (i : Int) + 1 = ((i + 1 : Nat) : Int) by omega]
    exact join_l0 n m hl hx d (i + 1) k (by omega) (by omega)
theorem join_is {n : Nat} {xs : List (List Int)} (hl : xs.flatten.length ≤ 4294967296) (hx : xs.length < n) (hn : n < 4611686018427387904) : ref01_Join.f n (xs, ()) = some (xs.flatten, ()) := by
  rw [ref01_Join.eq]
  have := join_l0 n n hl (by omega) xs.length 0 n (by omega) (by omega)
  rw [show ((0 : Nat) : Int) = 0 from rfl, show (xs.take 0).flatten = [] from rfl] at this
  rw [this]; rfl
theorem cat_l0 (n m : Nat) {xs : List (List Int)} (hl : xs.flatten.length ≤ 4294967296) (hx : xs.length < 4611686018427387904) : ∀ (d i k : Nat), i + d = xs.length → d < k → slices_Concat_byte_byte.l0 n m k (xs, (((xs.take i).flatten.length : Nat) : Int), xs, (xs.length : Int), (i : Int), ()) = some (xs, ((xs.flatten.length : Nat) : Int), ())
  | 0, i, 0, _, h => absurd h (by decide)
  | d + 1, i, 0, _, h => absurd h (by omega)
  | 0, i, k + 1, hi, hk => by
    rw [slices_Concat_byte_byte.l0_eq, if_neg (by simp; omega), List.take_of_length_le (by omega)]
  | d + 1, i, k + 1, hi, hk => by
    have hi' : i < xs.length := by omega
    have e : ((i : Int)).toNat = i := by omega
    have e2 : xs.getD i [] = xs[i] := by rw [List.getD_eq_getElem?_getD, List.getElem?_eq_getElem hi']; rfl
    have e3 : (xs.take i).flatten ++ xs[i] = (xs.take (i + 1)).flatten := by
      rw [List.take_add_one, List.getElem?_eq_getElem hi', List.flatten_append]
      simp only [Option.toList_some, List.flatten_cons, List.flatten_nil, List.append_nil]
    have e4 : (xs.take (i + 1)).flatten.length ≤ xs.flatten.length := by
      have : xs.flatten = (xs.take (i + 1)).flatten ++ (xs.drop (i + 1)).flatten := by rw [← List.flatten_append, List.take_append_drop]
      rw [this, List.length_append]; omega
    have e5 : (((xs.take i).flatten.length : Nat) : Int) + ((xs[i].length : Nat) : Int) = (((xs.take (i + 1)).flatten.length : Nat) : Int) := by rw [← e3, List.length_append]; omega
    rw [slices_Concat_byte_byte.l0_eq, if_pos (by simp; omega), if_pos (by omega), if_pos (by omega), e, e2, e5, wr64 (by omega) (by omega), if_neg (by simp <;> omega), wr64 (by omega) (by omega), show (i : Int) + 1 = ((i + 1 : Nat) : Int) by omega]
    exact cat_l0 n m hl hx d (i + 1) k (by omega) (by omega)
theorem cat_l2 (n m : Nat) {xs : List (List Int)} (hl : xs.flatten.length ≤ 4294967296) (hx : xs.length < 4611686018427387904) : ∀ (d i k : Nat), i + d = xs.length → d < k → slices_Concat_byte_byte.l2 n m k ((xs.take i).flatten, xs, (xs.length : Int), (i : Int), ()) = some (xs.flatten, ())
  | 0, i, 0, _, h => absurd h (by decide)
  | d + 1, i, 0, _, h => absurd h (by omega)
  | 0, i, k + 1, hi, hk => by
    rw [slices_Concat_byte_byte.l2_eq, if_neg (by simp; omega), List.take_of_length_le (by omega)]
  | d + 1, i, k + 1, hi, hk => by
    have hi' : i < xs.length := by omega
    have e : ((i : Int)).toNat = i := by omega
    have e2 : xs.getD i [] = xs[i] := by rw [List.getD_eq_getElem?_getD, List.getElem?_eq_getElem hi']; rfl
    have e3 : (xs.take i).flatten ++ xs[i] = (xs.take (i + 1)).flatten := by
      rw [List.take_add_one, List.getElem?_eq_getElem hi', List.flatten_append]
      simp only [Option.toList_some, List.flatten_cons, List.flatten_nil, List.append_nil]
    have e4 : (xs.take (i + 1)).flatten.length ≤ xs.flatten.length := by
      have : xs.flatten = (xs.take (i + 1)).flatten ++ (xs.drop (i + 1)).flatten := by rw [← List.flatten_append, List.take_append_drop]
      rw [this, List.length_append]; omega
    rw [← e3, List.length_append] at e4
    rw [slices_Concat_byte_byte.l2_eq, if_pos (by simp; omega), if_pos (by omega), if_pos (by omega), e, e2, if_pos (lim_of (by omega)), e3, wr64 (by omega) (by omega), show (i : Int) + 1 = ((i + 1 : Nat) : Int) by omega]
    exact cat_l2 n m hl hx d (i + 1) k (by omega) (by omega)
theorem grow_is (n : Nat) {c : Int} (h0 : 0 ≤ c) (h : c ≤ 4294967296) : slices_Grow_byte_byte.f n ((), c, ()) = some ([], ()) := by
  have e : wr .i64 (c - 0) = c := by rw [wr64 (by omega) (by omega)]; omega
  rw [slices_Grow_byte_byte.eq, if_neg (by simp; omega), e]
  by_cases hc : 0 < c
  · rw [if_pos (by simp; omega), if_pos (by omega), if_pos (by omega), if_pos hc, if_pos (lim_of h), if_pos (by omega), if_pos (by omega)]
    rfl
  · rw [if_neg (by simp; omega)]
theorem cat_is {n : Nat} {xs : List (List Int)} (hl : xs.flatten.length ≤ 4294967296) (hx : xs.length < n) (hn : n < 4611686018427387904) : slices_Concat_byte_byte.f n (xs, ()) = some (xs.flatten, ()) := by
  have h1 := cat_l0 n n hl (by omega) xs.length 0 n (by omega) (by omega)
  have h2 := cat_l2 n n hl (by omega) xs.length 0 n (by omega) (by omega)
  rw [show ((0 : Nat) : Int) = 0 from rfl, show (xs.take 0).flatten = [] from rfl] at h1 h2
  rw [show (((List.length ([] : List Int)) : Nat) : Int) = 0 from rfl] at h1
  have h3 := grow_is n (c := ((xs.flatten.length : Nat) : Int)) (by omega) (by omega)
  rw [slices_Concat_byte_byte.eq, h1, Option.bind_some]
  show (slices_Grow_byte_byte.f n ((), ((xs.flatten.length : Nat) : Int), ())).bind _ = _
  rw [h3, Option.bind_some]
  show (slices_Concat_byte_byte.l2 n n n ([], xs, (xs.length : Int), 0, ())).bind _ = _
  rw [h2, Option.bind_some]
/-- numbers of so many bytes, one behind the other -/
def les : List (Nat × Int) → List Int
  | [] => []
  | p :: r => le p.1 p.2 ++ les r
theorem les_append : ∀ (l m : List (Nat × Int)), les (l ++ m) = les l ++ les m
  | [], m => rfl
  | p :: l, m => by show le p.1 p.2 ++ les (l ++ m) = (le p.1 p.2 ++ les l) ++ les m; rw [les_append l m, List.append_assoc]
theorem les_by : ∀ l, By (les l)
  | [] => By.nil
  | p :: l => (le_by _ _).append (les_by l)
theorem numbers_l0 (n m : Nat) (hn : 9 ≤ n) {ps : List (Nat × Int)} (hp : ∀ p ∈ ps, p.1 ≤ 8 ∧ 0 ≤ p.2 ∧ p.2 < 18446744073709551616) (hx : ps.length ≤ 1000) : ∀ (d i k : Nat), i + d = ps.length → d < k → ref18_Numbers.l0 n m k (ps.map (·.2), ps.map (fun p => (p.1 : Int)), les (ps.take i), (i : Int), ()) = some (les ps, ())
  | 0, i, 0, _, h => absurd h (by decide)
  | d + 1, i, 0, _, h => absurd h (by omega)
  | 0, i, k + 1, hi, hk => by
    rw [ref18_Numbers.l0_eq, if_neg (by simp; omega), List.take_of_length_le (by omega)]
  | d + 1, i, k + 1, hi, hk => by
    have hi' : i < ps.length := by omega
    have e : ((i : Int)).toNat = i := by omega
    have e1 : (ps.map (·.2)).getD i 0 = ps[i].2 := by rw [List.getD_eq_getElem?_getD, List.getElem?_map, List.getElem?_eq_getElem hi']; rfl
    have e2 : (ps.map (fun p => (p.1 : Int))).getD i 0 = (ps[i].1 : Int) := by rw [List.getD_eq_getElem?_getD, List.getElem?_map, List.getElem?_eq_getElem hi']; rfl
    have e3 : les (ps.take i) ++ le ps[i].1 ps[i].2 = les (ps.take (i + 1)) := by
      rw [List.take_add_one, List.getElem?_eq_getElem hi', les_append]; simp only [Option.toList_some, les, List.append_nil]
    have hl : ∀ l : List (Nat × Int), (∀ p ∈ l, p.1 ≤ 8) → (les l).length ≤ 8 * l.length := by
      intro l
      induction l with
      | nil => intro _; simp [les]
      | cons p l ih =>
        intro h
        have h1 := ih (fun q hq => h q (List.mem_cons_of_mem _ hq))
        have h2 := h p (List.mem_cons_self ..)
        show (le p.1 p.2 ++ les l).length ≤ 8 * (l.length + 1)
        rw [List.length_append, le_len]; omega
    have e4 := hl (ps.take i) (fun p h => (hp p (List.mem_of_mem_take h)).1)
    rw [List.length_take] at e4
    have hpi := hp ps[i] (List.getElem_mem hi')
    rw [ref18_Numbers.l0_eq, if_pos (by simp; omega), if_pos (by omega), if_pos (by simp; omega), if_pos (by omega), if_pos (by simp; omega), e, e1, e2, rput_is hn _ _ hpi.2.1 hpi.2.2 (by omega) (by omega), Option.bind_some, Int.toNat_natCast, le_len, if_pos (lim_of (by omega)), e3, wr64 (by omega) (by omega), show (i : Int) + 1 = ((i + 1 : Nat) : Int) by omega]
    exact numbers_l0 n m hn hp hx d (i + 1) k (by omega) (by omega)
theorem numbers_is {n : Nat} (hn : 9 ≤ n) {ps : List (Nat × Int)} (hp : ∀ p ∈ ps, p.1 ≤ 8 ∧ 0 ≤ p.2 ∧ p.2 < 18446744073709551616) (hx : ps.length ≤ 1000) (hx' : ps.length < n) : ref18_Numbers.f n (ps.map (·.2), ps.map (fun p => (p.1 : Int)), ()) = some (les ps, ()) := by
  rw [ref18_Numbers.eq]
  have := numbers_l0 n n hn hp hx ps.length 0 n (by omega) (by omega)
  rw [show ((0 : Nat) : Int) = 0 from rfl, show les (ps.take 0) = [] from rfl] at this
  rw [this, Option.bind_some]
end Go.Proofs.YtcnegcjjeakmmaaDoor.Vm

namespace Go.Proofs.YtcnegcjjeakmmaaDoor.Vm
open Go Go.RowKit
set_option linter.unusedVariables false
set_option linter.unusedSimpArgs false
set_option maxRecDepth 10000
@[reducible] def Stm : Type := Int × Int × Int × Int × Int × Int × Unit
theorem within_is (n : Nat) (x : Int × Int × Int × Unit) : stamp_within.f n x = some (decide (x.2.1 ≤ x.1 ∧ x.1 ≤ x.2.2.1), ()) := by
  refine (stamp_within.eq n x.1 x.2.1 x.2.2.1).trans ?_
  by_cases h : x.2.1 ≤ x.1
  · rw [if_pos (by simpa using h)]; simp [h]
  · rw [if_neg (by simpa using h)]; simp [h]
/-- how many days a month has -/
def days (y m : Int) : Int := if m < 1 ∨ 12 < m then 0 else if m = 2 ∧ y.tmod 4 = 0 ∧ (y.tmod 100 ≠ 0 ∨ y.tmod 400 = 0) then 29 else tab0.getD m.toNat 0
theorem days_is (n : Nat) (x : Int × Int × Unit) : stamp_Days.f n x = some (days x.1 x.2.1, ()) := by
  refine (stamp_Days.eq n x.1 x.2.1).trans ?_
  unfold days
  by_cases h1 : x.2.1 < 1
  · simp [h1]
  · by_cases h2 : 12 < x.2.1
    · simp [h2]
    · have g1 : 0 ≤ x.2.1 := by omega
      have g2 : x.2.1 < 13 := by omega
      by_cases h3 : x.2.1 = 2
      · by_cases h4 : x.1.tmod 4 = 0
        · by_cases h5 : x.1.tmod 100 = 0
          · by_cases h6 : x.1.tmod 400 = 0
            · simp [h3, h4, h5, h6]
            · simp [h3, h4, h5, h6]
          · simp [h3, h4, h5]
        · simp [h3, h4]
      · simp [h1, h2, h3, g1, g2]
theorem tab_le : ∀ i : Nat, tab0.getD i 0 ≤ 31
  | 0 => by decide
  | 1 => by decide
  | 2 => by decide
  | 3 => by decide
  | 4 => by decide
  | 5 => by decide
  | 6 => by decide
  | 7 => by decide
  | 8 => by decide
  | 9 => by decide
  | 10 => by decide
  | 11 => by decide
  | 12 => by decide
  | n + 13 => by show (0 : Int) ≤ 31; decide
theorem days_le (y m : Int) : days y m ≤ 31 := by
  unfold days
  split
  · decide
  · split
    · decide
    · exact tab_le _
def StOk (t : Stm) : Prop := (1980 ≤ t.1 ∧ t.1 ≤ 2107) ∧ (1 ≤ t.2.1 ∧ t.2.1 ≤ 12) ∧ (1 ≤ t.2.2.1 ∧ t.2.2.1 ≤ days t.1 t.2.1) ∧ (0 ≤ t.2.2.2.1 ∧ t.2.2.2.1 ≤ 23) ∧ (0 ≤ t.2.2.2.2.1 ∧ t.2.2.2.2.1 ≤ 59) ∧ (0 ≤ t.2.2.2.2.2.1 ∧ t.2.2.2.2.2.1 ≤ 58) ∧ t.2.2.2.2.2.1.tmod 2 = 0
instance (t : Stm) : Decidable (StOk t) := by unfold StOk; infer_instance
def stE (t : Stm) : Int := if StOk t then 0 else 41
theorem stCheck_is (n : Nat) (x : Stm × Unit) : stamp_Check.f n x = some (stE x.1, ()) := by
  obtain ⟨t, u⟩ := x
  refine (stamp_Check.eq n t).trans ?_
  simp only [within_is, days_is, Option.bind_some]
  unfold stE StOk
  by_cases h1 : 1980 ≤ t.1 ∧ t.1 ≤ 2107 <;> by_cases h2 : 1 ≤ t.2.1 ∧ t.2.1 ≤ 12 <;> by_cases h3 : 1 ≤ t.2.2.1 ∧ t.2.2.1 ≤ days t.1 t.2.1 <;> by_cases h4 : 0 ≤ t.2.2.2.1 ∧ t.2.2.2.1 ≤ 23 <;> by_cases h5 : 0 ≤ t.2.2.2.2.1 ∧ t.2.2.2.2.1 ≤ 59 <;> by_cases h6 : 0 ≤ t.2.2.2.2.2.1 ∧ t.2.2.2.2.2.1 ≤ 58 <;> by_cases h7 : t.2.2.2.2.2.1.tmod 2 = 0 <;> simp [h1, h2, h3, h4, h5, h6, h7]
/-- a stamp's numbers -/
def dateN (t : Stm) : Int := (t.1 - 1980) * 512 + t.2.1 * 32 + t.2.2.1
def timeN (t : Stm) : Int := t.2.2.2.1 * 2048 + t.2.2.2.2.1 * 32 + t.2.2.2.2.2.1 / 2
/-- numbers' stamp -/
def unS (d m : Int) : Stm := (1980 + d / 512, d / 32 % 16, d % 32, m / 2048, m / 32 % 64, m % 32 * 2, ())
theorem tmod2 {x : Int} (h : 0 ≤ x) : x.tmod 2 = x % 2 := Int.tmod_eq_emod_of_nonneg h
theorem StOk.nums {t : Stm} (h : StOk t) : 0 ≤ dateN t ∧ dateN t < 65536 ∧ 0 ≤ timeN t ∧ timeN t < 65536 ∧ unS (dateN t) (timeN t) = t := by
  obtain ⟨y, m, d, hh, mi, s, u⟩ := t
  obtain ⟨h1, h2, h3, h4, h5, h6, h7⟩ := h
  have h8 := days_le y m
  simp only at h1 h2 h3 h4 h5 h6 h7 h8
  rw [tmod2 h6.1] at h7
  simp only [dateN, timeN, unS]
  refine ⟨by omega, by omega, by omega, by omega, ?_⟩
  rw [show 1980 + ((y - 1980) * 512 + m * 32 + d) / 512 = y by omega, show ((y - 1980) * 512 + m * 32 + d) / 32 % 16 = m by omega, show ((y - 1980) * 512 + m * 32 + d) % 32 = d by omega, show (hh * 2048 + mi * 32 + s / 2) / 2048 = hh by omega, show (hh * 2048 + mi * 32 + s / 2) / 32 % 64 = mi by omega, show (hh * 2048 + mi * 32 + s / 2) % 32 * 2 = s by omega]
theorem un_nums {d m : Int} (hd : 0 ≤ d) (hd' : d < 65536) (hm : 0 ≤ m) (hm' : m < 65536) : dateN (unS d m) = d ∧ timeN (unS d m) = m := by
  simp only [dateN, timeN, unS]
  constructor <;> omega
theorem stPack_is (n : Nat) (x : Stm × Unit) : stamp_Pack.f n x = some (if StOk x.1 then (dateN x.1, timeN x.1, 0, ()) else (0, 0, 41, ())) := by
  obtain ⟨t, u⟩ := x
  refine (stamp_Pack.eq n t).trans ?_
  simp only [stCheck_is, Option.bind_some]
  by_cases h : StOk t
  · have e : stE t = 0 := if_pos h
    obtain ⟨p1, p2, p3, p4, _⟩ := h.nums
    obtain ⟨h1, h2, h3, h4, h5, h6, h7⟩ := h
    have h8 := days_le t.1 t.2.1
    have e2 : t.2.2.2.2.2.1.tdiv 2 = t.2.2.2.2.2.1 / 2 := Int.tdiv_eq_ediv_of_nonneg h6.1
    unfold dateN at p1 p2
    unfold timeN at p3 p4
    rw [if_neg (by simp [e]), if_pos ⟨h1, h2, h3, h4, h5, h6, h7⟩, e2, wr64 (x := t.1 - 1980) (by omega) (by omega), wr64 (x := (t.1 - 1980) * 512) (by omega) (by omega), wr64 (x := t.2.1 * 32) (by omega) (by omega), wr64 (x := (t.1 - 1980) * 512 + t.2.1 * 32) (by omega) (by omega), wr64 (x := (t.1 - 1980) * 512 + t.2.1 * 32 + t.2.2.1) (by omega) (by omega),
      wr64 (x := t.2.2.2.1 * 2048) (by omega) (by omega), wr64 (x := t.2.2.2.2.1 * 32) (by omega) (by omega), wr64 (x := t.2.2.2.1 * 2048 + t.2.2.2.2.1 * 32) (by omega) (by omega), wr64 (x := t.2.2.2.2.2.1 / 2) (by omega) (by omega), wr64 (x := t.2.2.2.1 * 2048 + t.2.2.2.2.1 * 32 + t.2.2.2.2.2.1 / 2) (by omega) (by omega), wru16, wru16, Int.emod_eq_of_lt p1 p2, Int.emod_eq_of_lt p3 p4]
    rfl
  · have e : stE t = 41 := if_neg h
    rw [if_pos (by simp [e]), if_neg h, e]
theorem stUnpack_is (n : Nat) (x : Int × Int × Unit) (hd : 0 ≤ x.1) (hd' : x.1 < 65536) (hm : 0 ≤ x.2.1) (hm' : x.2.1 < 65536) : stamp_Unpack.f n x = some (if StOk (unS x.1 x.2.1) then (unS x.1 x.2.1, 0, ()) else ((0, 0, 0, 0, 0, 0, ()), 41, ())) := by
  obtain ⟨d, m, u⟩ := x
  simp only at hd hd' hm hm'
  refine (stamp_Unpack.eq n d m).trans ?_
  have e1 : d.tdiv 512 = d / 512 := Int.tdiv_eq_ediv_of_nonneg hd
  have e2 : d.tdiv 32 = d / 32 := Int.tdiv_eq_ediv_of_nonneg hd
  have e3 : d.tmod 32 = d % 32 := Int.tmod_eq_emod_of_nonneg hd
  have e4 : m.tdiv 2048 = m / 2048 := Int.tdiv_eq_ediv_of_nonneg hm
  have e5 : m.tdiv 32 = m / 32 := Int.tdiv_eq_ediv_of_nonneg hm
  have e6 : m.tmod 32 = m % 32 := Int.tmod_eq_emod_of_nonneg hm
  have e7 : (d / 32).tmod 16 = d / 32 % 16 := Int.tmod_eq_emod_of_nonneg (by omega)
  have e8 : (m / 32).tmod 64 = m / 32 % 64 := Int.tmod_eq_emod_of_nonneg (by omega)
  rw [wr64 (x := d) (by omega) (by omega), wr64 (x := m) (by omega) (by omega), e1, e2, e3, e4, e5, e6, wr64 (x := d / 512) (by omega) (by omega), wr64 (x := d / 32) (by omega) (by omega), wr64 (x := m / 2048) (by omega) (by omega), wr64 (x := m / 32) (by omega) (by omega), e7, e8, wr64 (x := 1980 + d / 512) (by omega) (by omega), wr64 (x := m % 32 * 2) (by omega) (by omega)]
  simp only [stCheck_is, Option.bind_some]
  show (if (stE (unS d m) != 0) = true then _ else some (unS d m, (0 : Int), ())) = _
  by_cases h : StOk (unS d m)
  · have e : stE (unS d m) = 0 := if_pos h
    rw [if_neg (by simp [e]), if_pos h]
  · have e : stE (unS d m) = 41 := if_neg h
    rw [if_pos (by simp [e]), if_neg h]
    show some ((0, 0, 0, 0, 0, 0, ()), stE (unS d m), ()) = _
    rw [e]
/-- what a name may hold -/
def mayV (c : Int) : Bool := decide (32 ≤ c) && (decide (c < 127) || decide (159 < c)) && (c != 92) && (c != 58) && (c != 65533)
def partV (s : ByteArray) : Bool := !(s.toList == ByteArray.empty.toList) && !(s.toList == (ByteArray.mk #[46]).toList) && !(s.toList == (ByteArray.mk #[46, 46]).toList)
theorem may_is (n : Nat) (x : Int × Unit) : name_may.f n x = some (mayV x.1, ()) := by
  refine (name_may.eq n x.1).trans ?_
  unfold mayV
  by_cases h1 : 32 ≤ x.1 <;> by_cases h2 : x.1 < 127 <;> by_cases h3 : 159 < x.1 <;> by_cases h4 : x.1 = 92 <;> by_cases h5 : x.1 = 58 <;> simp [h1, h2, h3, h4, h5]
theorem part_is (n : Nat) (x : ByteArray × Unit) : name_part.f n x = some (partV x.1, ()) := by
  refine (name_part.eq n x.1).trans ?_
  unfold partV
  cases h1 : (ByteArray.toList x.1 == ByteArray.toList ByteArray.empty) <;> cases h2 : (ByteArray.toList x.1 == ByteArray.toList (ByteArray.mk #[46])) <;> simp [h1, h2]
theorem scan_total (s : ByteArray) : ∀ (k pos : Nat), 0 < k → s.size < pos + k → ∃ b, Nm.scan (fun c => some (mayV c)) k s pos = some b
  | 0, pos, h, _ => absurd h (by decide)
  | k + 1, pos, h, h2 => by
    unfold Nm.scan
    by_cases hp : pos < s.size
    · rw [if_pos hp, Option.bind_some]
      cases mayV (Go.Utf8.decode s pos).1 with
      | true =>
        rw [if_pos rfl]
        exact scan_total s k _ (by omega) (by have := Nm.width_pos s pos hp; omega)
      | false => exact ⟨_, rfl⟩
    · exact ⟨_, if_neg hp⟩
theorem chk_total : ∀ (k : Nat) (s : ByteArray), s.size < k → ∃ b, Nm.chk (fun t => some (partV t)) k s = some b
  | 0, s, h => absurd h (by omega)
  | k + 1, s, h => by
    unfold Nm.chk
    rw [Option.bind_some]
    cases partV (Nm.hd s) with
    | false => exact ⟨_, rfl⟩
    | true =>
      rw [if_pos rfl]
      by_cases hi : Nm.idx s < 0
      · exact ⟨_, if_pos hi⟩
      · rw [if_neg hi]
        refine chk_total k (Nm.tl s) ?_
        have hr := Nm.idx_range s
        unfold Nm.tl
        rw [ByteArray.size_extract]
        omega
/-- what the program says of a name -/
def nmV (n : Nat) (s : ByteArray) : Int := (Nm.checkN (fun c => some (mayV c)) (fun t => some (partV t)) n s).getD 40
theorem check_total {n : Nat} (hn : 256 ≤ n) (s : ByteArray) : Nm.checkN (fun c => some (mayV c)) (fun t => some (partV t)) n s = some (nmV n s) ∧ (nmV n s = 0 ∨ nmV n s = 40) := by
  have : ∃ v, Nm.checkN (fun c => some (mayV c)) (fun t => some (partV t)) n s = some v ∧ (v = 0 ∨ v = 40) := by
    unfold Nm.checkN
    by_cases h : s.size = 0 ∨ 255 < s.size
    · exact ⟨40, if_pos h, .inr rfl⟩
    · rw [if_neg h]
      obtain ⟨b, hb⟩ := scan_total s n 0 (by omega) (by omega)
      rw [hb, Option.bind_some]
      cases b with
      | false => exact ⟨40, rfl, .inr rfl⟩
      | true =>
        rw [if_pos rfl]
        obtain ⟨c, hc⟩ := chk_total n s (by omega)
        rw [hc, Option.bind_some]
        cases c
        · exact ⟨_, rfl, .inr rfl⟩
        · exact ⟨_, rfl, .inl rfl⟩
  obtain ⟨v, h1, h2⟩ := this
  have : nmV n s = v := by unfold nmV; rw [h1]; rfl
  rw [this]
  exact ⟨h1, h2⟩
theorem name_is {n : Nat} (hn : 256 ≤ n) (x : ByteArray × Unit) : name_Check.f n x = some (nmV n x.1, ()) := by
  have e1 : name_Check.may n = fun c => some (mayV c) := by funext c; unfold name_Check.may; rw [may_is]; rfl
  have e2 : name_Check.part n = fun c => some (partV c) := by funext c; unfold name_Check.part; rw [part_is]; rfl
  show (Nm.checkN (name_Check.may n) (name_Check.part n) n x.1).bind (fun r => some (r, ())) = _
  rw [e1, e2, (check_total hn x.1).1]
  rfl
theorem nmV_long {n : Nat} {s : ByteArray} (h : s.size = 0 ∨ 255 < s.size) : nmV n s = 40 := by
  unfold nmV Nm.checkN
  rw [if_pos h]; rfl
end Go.Proofs.YtcnegcjjeakmmaaDoor.Vm

namespace Go.Proofs.YtcnegcjjeakmmaaDoor.Vm
open Go Go.RowKit
set_option linter.unusedVariables false
set_option linter.unusedSimpArgs false
set_option maxRecDepth 10000
@[reducible] def Hdr : Type := Int × Stm × Int × Int × Int × ByteArray × Unit
def grt (h : Hdr) : Prop := 4294967295 ≤ h.2.2.2.1 ∨ 4294967295 ≤ h.2.2.2.2.1
instance (h : Hdr) : Decidable (grt h) := by unfold grt; infer_instance
theorem great_is (n : Nat) (x : Hdr × Unit) : local_great.f n x = some (decide (grt x.1), ()) := by
  obtain ⟨h, u⟩ := x
  refine (local_great.eq n h).trans ?_
  unfold grt
  by_cases h1 : 4294967295 ≤ h.2.2.2.1
  · rw [if_pos (by simpa using h1)]; simp [h1]
  · rw [if_neg (by simpa using h1)]; simp [h1]
def chkV (n : Nat) (h : Hdr) : Int := if h.1 ≠ 0 ∧ h.1 ≠ 8 then 43 else if StOk h.2.1 then nmV n h.2.2.2.2.2.1 else 41
theorem chk_zero {n : Nat} {h : Hdr} (hc : chkV n h = 0) : (h.1 = 0 ∨ h.1 = 8) ∧ StOk h.2.1 ∧ nmV n h.2.2.2.2.2.1 = 0 ∧ 0 < h.2.2.2.2.2.1.size ∧ h.2.2.2.2.2.1.size ≤ 255 := by
  unfold chkV at hc
  split at hc
  · exact absurd hc (by decide)
  · rename_i h1
    split at hc
    · rename_i h2
      refine ⟨by omega, h2, hc, ?_⟩
      by_cases h3 : h.2.2.2.2.2.1.size = 0 ∨ 255 < h.2.2.2.2.2.1.size
      · rw [nmV_long h3] at hc; exact absurd hc (by decide)
      · omega
    · exact absurd hc (by decide)
/-- a header's numbers -/
def hdN (h : Hdr) : List (Nat × Int) := if grt h then [(4, 67324752), (2, 45), (2, 2048), (2, h.1), (2, timeN h.2.1), (2, dateN h.2.1), (4, h.2.2.1), (4, 4294967295), (4, 4294967295), (2, (h.2.2.2.2.2.1.size : Int)), (2, 20)]
  else [(4, 67324752), (2, 20), (2, 2048), (2, h.1), (2, timeN h.2.1), (2, dateN h.2.1), (4, h.2.2.1), (4, h.2.2.2.1), (4, h.2.2.2.2.1), (2, (h.2.2.2.2.2.1.size : Int)), (2, 0)]
def mrB (h : Hdr) : List Int := if grt h then les [(2, 1), (2, 16), (8, h.2.2.2.2.1), (8, h.2.2.2.1)] else []
def wB (h : Hdr) : List Int := les (hdN h) ++ (sbytes h.2.2.2.2.2.1 ++ mrB h)
theorem sbytes_by (s : ByteArray) : By (sbytes s) := fun x hx => by
  unfold sbytes at hx
  obtain ⟨b, _, rfl⟩ := List.mem_map.1 hx
  have := b.toNat_lt
  omega
theorem mrB_len (h : Hdr) : (mrB h).length = if grt h then 20 else 0 := by
  unfold mrB; split <;> rfl
theorem hdN_len (h : Hdr) : (les (hdN h)).length = 30 := by unfold hdN; split <;> rfl
theorem wB_len (h : Hdr) : (wB h).length = 30 + h.2.2.2.2.2.1.size + if grt h then 20 else 0 := by
  unfold wB
  rw [List.length_append, List.length_append, hdN_len, mrB_len, sbytes_len]; omega
theorem wB_by (h : Hdr) : By (wB h) := (les_by _).append ((sbytes_by _).append (by unfold mrB; split; exact les_by _; exact By.nil))
/-- the numbers are within their bounds -/
structure HdOk (h : Hdr) : Prop where
  sum : 0 ≤ h.2.2.1 ∧ h.2.2.1 < 4294967296
  pk : 0 ≤ h.2.2.2.1 ∧ h.2.2.2.1 < 18446744073709551616
  sz : 0 ≤ h.2.2.2.2.1 ∧ h.2.2.2.2.1 < 18446744073709551616
theorem lsize_is (n : Nat) (h : Hdr) (hs : h.2.2.2.2.2.1.size ≤ 65535) : local_Size.f n (h, ()) = some (30 + (h.2.2.2.2.2.1.size : Int) + (if grt h then 20 else 0), ()) := by
  rw [local_Size.eq, great_is, Option.bind_some]
  by_cases hg : grt h
  · rw [if_pos (by simp [hg]), if_neg (by omega), wr64 (x := 30 + (h.2.2.2.2.2.1.size : Int)) (by omega) (by omega), wr64 (by omega) (by omega), if_pos hg]
  · rw [if_neg (by simp [hg]), if_neg (by omega), wr64 (x := 30 + (h.2.2.2.2.2.1.size : Int)) (by omega) (by omega), if_neg hg, Int.add_zero]
end Go.Proofs.YtcnegcjjeakmmaaDoor.Vm

