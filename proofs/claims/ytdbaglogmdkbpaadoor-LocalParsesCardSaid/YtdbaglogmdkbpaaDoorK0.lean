/- Numbers of several bytes: what the program's readers and writers come to. Conditions: as each theorem states them. -/
import Derived.Test.YtdbaglogmdkbpaaDoorYz
namespace Go.Proofs.YtdbaglogmdkbpaaDoor.Vm
open Go Go.RowKit
set_option linter.unusedVariables false
set_option linter.unusedSimpArgs false
set_option maxRecDepth 10000
theorem wr64 {x : Int} (h : -9223372036854775808 ≤ x) (h' : x < 9223372036854775808) : wr .i64 x = x := by rw [wr_eq, IntKind.wrap_i64]; omega
theorem wru64 {x : Int} (h : 0 ≤ x) (h' : x < 18446744073709551616) : wr .u64 x = x := by rw [wr_eq, IntKind.wrap_u64]; omega
theorem wru64_mod (x : Int) : wr .u64 x = x % 18446744073709551616 := by rw [wr_eq, IntKind.wrap_u64]
theorem wru8 (x : Int) : wr .u8 x = x % 256 := by rw [wr_eq, IntKind.wrap_u8]
theorem wru16 (x : Int) : wr .u16 x = x % 65536 := by rw [wr_eq]; simp [IntKind.wrap, IntKind.bits, IntKind.signed]
theorem wru32 (x : Int) : wr .u32 x = x % 4294967296 := by rw [wr_eq, IntKind.wrap_u32]
theorem shr8 (x : Int) : shrV .u64 x 8 = x / 256 := by
  unfold shrV
  show Int.fdiv x (2 ^ min (Int.toNat 8) 64) = _
  rw [Int.fdiv_eq_ediv_of_nonneg _ (by decide)]
  rfl
theorem lim_of {x : Int} (h : x ≤ 4294967296) : x ≤ lim := h
/-- bytes -/
def By (l : List Int) : Prop := ∀ x ∈ l, 0 ≤ x ∧ x < 256
theorem By.nil : By [] := fun x h => by cases h
theorem By.cons {a : Int} {l : List Int} (h0 : 0 ≤ a) (h1 : a < 256) (h : By l) : By (a :: l) := fun x hx => by
  rcases List.mem_cons.1 hx with rfl | hx
  · exact ⟨h0, h1⟩
  · exact h x hx
theorem By.head {a : Int} {l : List Int} (h : By (a :: l)) : 0 ≤ a ∧ a < 256 := h a (List.mem_cons_self ..)
theorem By.tail {a : Int} {l : List Int} (h : By (a :: l)) : By l := fun x hx => h x (List.mem_cons_of_mem _ hx)
theorem By.drop {l : List Int} (h : By l) (i : Nat) : By (l.drop i) := fun x hx => h x (List.mem_of_mem_drop hx)
theorem By.take {l : List Int} (h : By l) (i : Nat) : By (l.take i) := fun x hx => h x (List.mem_of_mem_take hx)
theorem By.append {l m : List Int} (h : By l) (h' : By m) : By (l ++ m) := fun x hx => by
  rcases List.mem_append.1 hx with hx | hx
  · exact h x hx
  · exact h' x hx
theorem By.getD {l : List Int} (h : By l) (i : Nat) : 0 ≤ l.getD i 0 ∧ l.getD i 0 < 256 := by
  rw [List.getD_eq_getElem?_getD]
  cases hi : l[i]? with
  | none => simp
  | some x => exact h x (List.mem_of_getElem? hi)
/-- a number's lowest bytes -/
def le : Nat → Int → List Int
  | 0, _ => []
  | k + 1, x => x % 256 :: le k (x / 256)
/-- the number of bytes -/
def ge : List Int → Int
  | [] => 0
  | a :: r => a + 256 * ge r
theorem le_len : ∀ (k : Nat) (x : Int), (le k x).length = k
  | 0, _ => rfl
  | k + 1, x => congrArg (· + 1) (le_len k _)
theorem le_by : ∀ (k : Nat) (x : Int), By (le k x)
  | 0, _ => By.nil
  | k + 1, x => By.cons (Int.emod_nonneg _ (by decide)) (Int.emod_lt_of_pos _ (by decide)) (le_by k _)
theorem ge_nonneg : ∀ {l : List Int}, By l → 0 ≤ ge l
  | [], _ => Int.le_refl _
  | a :: r, h => by have := ge_nonneg h.tail; have := h.head; show 0 ≤ a + 256 * ge r; omega
theorem ge_lt : ∀ {l : List Int}, By l → ge l < 256 ^ l.length
  | [], _ => by decide
  | a :: r, h => by
    have h1 := ge_lt h.tail
    have h2 := h.head
    show a + 256 * ge r < 256 ^ (r.length + 1)
    rw [Int.pow_succ]; omega
theorem ge_le : ∀ (k : Nat) {x : Int}, 0 ≤ x → x < 256 ^ k → ge (le k x) = x
  | 0, x, h0, h1 => by simp at h1; show (0 : Int) = x; omega
  | k + 1, x, h0, h1 => by
    rw [Int.pow_succ] at h1
    show x % 256 + 256 * ge (le k (x / 256)) = x
    rw [ge_le k (by omega) (by omega)]; omega
theorem le_ge : ∀ {l : List Int}, By l → le l.length (ge l) = l
  | [], _ => rfl
  | a :: r, h => by
    have h2 := h.head
    show (a + 256 * ge r) % 256 :: le r.length ((a + 256 * ge r) / 256) = _
    rw [show (a + 256 * ge r) % 256 = a by omega, show (a + 256 * ge r) / 256 = ge r by omega, le_ge h.tail]
theorem le_inj (k : Nat) {x y : Int} (hx : 0 ≤ x) (hx' : x < 256 ^ k) (hy : 0 ≤ y) (hy' : y < 256 ^ k) (h : le k x = le k y) : x = y := by
  rw [← ge_le k hx hx', ← ge_le k hy hy', h]
theorem le_mod : ∀ (k : Nat) (x : Int), le k (x % 256 ^ k) = le k x
  | 0, _ => rfl
  | k + 1, x => by
    have hp : (0 : Int) < 256 ^ k := Int.pow_pos (by decide)
    show x % 256 ^ (k + 1) % 256 :: le k (x % 256 ^ (k + 1) / 256) = x % 256 :: le k (x / 256)
    have e1 : x % 256 ^ (k + 1) % 256 = x % 256 := by
      rw [Int.pow_succ]; exact Int.emod_emod_of_dvd _ (Int.dvd_mul_left ..)
    have e2 : x % 256 ^ (k + 1) / 256 = (x / 256) % 256 ^ k := by
      rw [Int.pow_succ, Int.mul_comm]
      have h1 := Int.emod_def x (256 * 256 ^ k)
      rw [h1, Int.emod_def (x / 256) (256 ^ k), Int.ediv_ediv_of_nonneg (by decide : (0 : Int) ≤ 256), Int.mul_assoc]
      omega
    rw [e1, e2, le_mod k]
theorem held_le (s : Int) (h0 : 0 ≤ s) (h8 : s ≤ 8) (n : Nat) : little_held.f n (s, ()) = some (s, ()) := by
  rw [little_held.eq, if_neg (show ¬ s < 0 by omega), if_neg (by omega)]
theorem put_l0 (n m : Nat) : ∀ (d k : Nat) (x : Int) (out : List Int) (c i : Int), i + d = c → 0 ≤ i → c ≤ 8 → out.length + d ≤ 1000 → d < k → little_Put.l0 n m k (x, out, c, i, ()) = some (out ++ le d x, ())
  | 0, 0, _, _, _, _, _, _, _, _, h => absurd h (by decide)
  | d + 1, 0, _, _, _, _, _, _, _, _, h => absurd h (by omega)
  | 0, k + 1, x, out, c, i, h, h0, h8, hl, hk => by
    rw [little_Put.l0_eq, if_neg (by simp; omega)]
    simp [le]
  | d + 1, k + 1, x, out, c, i, h, h0, h8, hl, hk => by
    rw [little_Put.l0_eq, if_pos (by simp; omega), if_pos (lim_of (by simp; omega)), wru8, shr8, wr64 (by omega) (by omega), put_l0 n m d k (x / 256) (out ++ [x % 256]) c (i + 1) (by omega) (by omega) h8 (by simp; omega) (by omega)]
    simp [le]
theorem put_is {n : Nat} (hn : 9 ≤ n) (x s : Int) (h0 : 0 ≤ s) (h8 : s ≤ 8) : little_Put.f n (x, s, ()) = some (le s.toNat x, ()) := by
  rw [little_Put.eq, held_le s h0 h8, Option.bind_some, put_l0 n n s.toNat n x [] s 0 (by omega) (by omega) h8 (by simp; omega) (by omega)]
  simp
theorem rput_l0 (n m : Nat) : ∀ (d k : Nat) (x : Int) (out : List Int) (c i : Int), i + d = c → 0 ≤ i → c ≤ 8 → out.length + d ≤ 1000 → d < k → 0 ≤ x → x < 18446744073709551616 → ref07_Put.l0 n m k (x, c, out, i, ()) = some (out ++ le d x, ())
  | 0, 0, _, _, _, _, _, _, _, _, h, _, _ => absurd h (by decide)
  | d + 1, 0, _, _, _, _, _, _, _, _, h, _, _ => absurd h (by omega)
  | 0, k + 1, x, out, c, i, h, h0, h8, hl, hk, hx, hx' => by
    rw [ref07_Put.l0_eq, if_neg (by simp; omega)]
    simp [le]
  | d + 1, k + 1, x, out, c, i, h, h0, h8, hl, hk, hx, hx' => by
    have e1 : x.tdiv 256 = x / 256 := Int.tdiv_eq_ediv_of_nonneg hx
    have e2 : x.tmod 256 = x % 256 := Int.tmod_eq_emod_of_nonneg hx
    rw [ref07_Put.l0_eq, if_pos (by simp; omega), if_pos (by simp; omega), if_pos (lim_of (by simp; omega)), e1, e2, wru8, wru64 (by omega) (by omega), wr64 (by omega) (by omega), rput_l0 n m d k (x / 256) (out ++ [x % 256 % 256]) c (i + 1) (by omega) (by omega) h8 (by simp; omega) (by omega) (by omega) (by omega)]
    simp [le]
theorem rput_is {n : Nat} (hn : 9 ≤ n) (x s : Int) (hx : 0 ≤ x) (hx' : x < 18446744073709551616) (h0 : 0 ≤ s) (h8 : s ≤ 8) : ref07_Put.f n (x, s, ()) = some (le s.toNat x, ()) := by
  rw [ref07_Put.eq, rput_l0 n n s.toNat n x [] s 0 (by omega) (by omega) h8 (by simp; omega) (by omega) hx hx']
  simp
theorem or_nat (y b : Nat) (h1 : y ||| b = y + b) (h2 : y + b < 18446744073709551616) : bor .u64 ((y : Nat) : Int) ((b : Nat) : Int) = ((y + b : Nat) : Int) := by
  have hy : y < 18446744073709551616 := Nat.lt_of_le_of_lt (Nat.le_add_right y b) h2
  have hb : b < 18446744073709551616 := Nat.lt_of_le_of_lt (Nat.le_add_left b y) h2
  have m1 : y % 18446744073709551616 = y := Nat.mod_eq_of_lt hy
  have m2 : b % 18446744073709551616 = b := Nat.mod_eq_of_lt hb
  have w1 : wr IntKind.u64 (((y + b : Nat) : Int)) = ((y + b : Nat) : Int) := by
    clear h1
    exact wru64 (by omega) (by omega)
  show wr IntKind.u64 ((BitVec.ofInt 64 ((y : Nat) : Int) ||| BitVec.ofInt 64 ((b : Nat) : Int)).toNat : Int) = _
  simp only [BitVec.ofInt_natCast, BitVec.toNat_or, BitVec.toNat_ofNat]
  rw [show (2 : Nat) ^ 64 = 18446744073709551616 from rfl, m1, m2, h1, w1]
theorem or_add {x b : Int} (hx0 : 0 ≤ x) (hx : x < 72057594037927936) (hb0 : 0 ≤ b) (hb : b < 256) : bor .u64 (shlV .u64 x 8) (wr .u64 b) = x * 256 + b := by
  have e : shlV .u64 x 8 = x * 256 := by
    show wr .u64 (x * 2 ^ min (Int.toNat 8) 64) = _
    rw [show (2 : Int) ^ min (Int.toNat 8) 64 = 256 from rfl, wru64 (by omega) (by omega)]
  rw [e, wru64 hb0 (by omega)]
  obtain ⟨y, rfl⟩ := Int.eq_ofNat_of_zero_le hx0
  obtain ⟨c, rfl⟩ := Int.eq_ofNat_of_zero_le hb0
  have := Nat.two_pow_add_eq_or_of_lt (i := 8) (b := c) (by omega) y
  rw [show (2 : Nat) ^ 8 = 256 from rfl, Nat.mul_comm] at this
  have h3 := or_nat (y * 256) c this.symm (by omega)
  rw [show ((y : Int) * 256) = ((y * 256 : Nat) : Int) by omega, h3]
  omega
theorem ge_drop {l : List Int} {i : Nat} (h : i < l.length) : ge (l.drop i) = l.getD i 0 + 256 * ge (l.drop (i + 1)) := by
  rw [List.drop_eq_getElem_cons h, List.getD_eq_getElem?_getD, List.getElem?_eq_getElem h]; rfl
theorem pow_le7 {n : Nat} (h : n ≤ 7) : (256 : Int) ^ n ≤ 72057594037927936 := by
  have : 256 ^ n ≤ 256 ^ 7 := Nat.pow_le_pow_right (by decide) h
  have h2 : (((256 ^ n : Nat)) : Int) ≤ ((256 ^ 7 : Nat) : Int) := Int.ofNat_le.2 this
  simpa using h2
theorem get_l0 (n m : Nat) {l : List Int} (hb : By l) (h8 : l.length ≤ 8) : ∀ (i k : Nat), i ≤ l.length → i < k → little_Get.l0 n m k (l, ge (l.drop i), (i : Int) - 1, ()) = some (ge l, ())
  | 0, 0, _, h => absurd h (by decide)
  | i + 1, 0, _, h => absurd h (by omega)
  | 0, k + 1, hi, hk => by
    rw [little_Get.l0_eq, if_neg (by simp)]
    simp
  | i + 1, k + 1, hi, hk => by
    have h1 := ge_lt (hb.drop (i + 1))
    have h2 := pow_le7 (n := (l.drop (i + 1)).length) (by rw [List.length_drop]; omega)
    have h3 := hb.getD i
    have e : (((i + 1 : Nat) : Int) - 1).toNat = i := by omega
    rw [little_Get.l0_eq, if_pos (by simp), if_pos (by omega), if_pos (by omega), e, or_add (ge_nonneg (hb.drop _)) (by omega) h3.1 h3.2, show ge (l.drop (i + 1)) * 256 + l.getD i 0 = ge (l.drop i) by rw [ge_drop (l := l) (i := i) (by omega)]; omega, wr64 (by omega) (by omega), show ((i + 1 : Nat) : Int) - 1 - 1 = (i : Int) - 1 by omega]
    exact get_l0 n m hb h8 i k (by omega) (by omega)
theorem get_is {n : Nat} (hn : 9 ≤ n) {l : List Int} (hb : By l) (h8 : l.length ≤ 8) : little_Get.f n (l, ()) = some (ge l, ()) := by
  rw [little_Get.eq, if_neg (by omega), wr64 (by omega) (by omega)]
  have := get_l0 n n hb h8 l.length n (Nat.le_refl _) (by omega)
  rw [List.drop_length] at this
  rw [show ge [] = 0 from rfl] at this
  rw [this]; rfl
theorem ge_take {l : List Int} : ∀ {i : Nat}, i < l.length → ge (l.take (i + 1)) = ge (l.take i) + l.getD i 0 * 256 ^ i := by
  induction l with
  | nil => intro i h; simp at h
  | cons a r ih =>
    intro i h
    cases i with
    | zero => simp [ge]
    | succ i =>
      rw [List.take_succ_cons, List.take_succ_cons]
      show a + 256 * ge (r.take (i + 1)) = a + 256 * ge (r.take i) + r.getD i 0 * 256 ^ (i + 1)
      rw [ih (by simpa using h), Int.pow_succ, Int.mul_add, ← Int.mul_assoc (r.getD i 0), Int.mul_comm (r.getD i 0 * 256 ^ i) 256]
      omega
theorem pow_le8 {n : Nat} (h : n ≤ 8) : (256 : Int) ^ n ≤ 18446744073709551616 := by
  have : 256 ^ n ≤ 256 ^ 8 := Nat.pow_le_pow_right (by decide) h
  have h2 : (((256 ^ n : Nat)) : Int) ≤ ((256 ^ 8 : Nat) : Int) := Int.ofNat_le.2 this
  simpa using h2
theorem rget_l0 (n m : Nat) {l : List Int} (hb : By l) (h8 : l.length ≤ 8) : ∀ (d i k : Nat) (y : Int), i + d = l.length → d < k → (i < 8 → y = 256 ^ i) → ref07_Get.l0 n m k (l, ge (l.take i), y, (i : Int), ()) = some (ge l, ())
  | 0, i, 0, _, _, h, _ => absurd h (by decide)
  | d + 1, i, 0, _, _, h, _ => absurd h (by omega)
  | 0, i, k + 1, y, hi, hk, hy => by
    rw [ref07_Get.l0_eq, if_neg (by simp; omega), List.take_of_length_le (by omega)]
  | d + 1, i, k + 1, y, hi, hk, hy => by
    have hy := hy (by omega)
    subst hy
    have h3 := hb.getD i
    have h4 := ge_take (l := l) (i := i) (by omega)
    have h5 := ge_lt (hb.take (i + 1))
    have h6 := ge_nonneg (hb.take (i + 1))
    have h0 := ge_nonneg (hb.take i)
    have h7 : (256 : Int) ^ (l.take (i + 1)).length ≤ 18446744073709551616 := pow_le8 (by rw [List.length_take]; omega)
    have hp : (0 : Int) ≤ l.getD i 0 * 256 ^ i := Int.mul_nonneg h3.1 (Int.le_of_lt (Int.pow_pos (by decide)))
    have e : ((i : Int)).toNat = i := by omega
    rw [ref07_Get.l0_eq, if_pos (by simp; omega), if_pos (by simp; omega), if_pos (by omega), if_pos (by omega), e, wru64 h3.1 (by omega), wru64 hp (by omega), wru64 (by omega) (by omega), ← h4, wr64 (x := (i : Int) + 1) (by omega) (by omega), show (i : Int) + 1 = ((i + 1 : Nat) : Int) by omega]
    refine rget_l0 n m hb h8 d (i + 1) k _ (by omega) (by omega) (fun hi8 => ?_)
    have h9 : (256 : Int) ^ (i + 1) ≤ 72057594037927936 := pow_le7 (by omega)
    rw [← Int.pow_succ, wru64 (Int.le_of_lt (Int.pow_pos (by decide))) (by omega)]
theorem rget_is {n : Nat} (hn : 9 ≤ n) {l : List Int} (hb : By l) (h8 : l.length ≤ 8) : ref07_Get.f n (l, ()) = some (ge l, ()) := by
  rw [ref07_Get.eq]
  have := rget_l0 n n hb h8 l.length 0 n 1 (by omega) (by omega) (fun _ => rfl)
  rw [show ge (l.take 0) = 0 from rfl] at this
  rw [show ((0 : Nat) : Int) = 0 from rfl] at this
  rw [this]; rfl
end Go.Proofs.YtdbaglogmdkbpaaDoor.Vm
