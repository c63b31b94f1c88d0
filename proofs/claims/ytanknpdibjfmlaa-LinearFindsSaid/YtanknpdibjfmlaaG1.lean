/- The program's products, powers and inverses of bytes, and the document's, are those of the field. No conditions. -/
import Derived.Test.YtanknpdibjfmlaaPA
import Derived.Test.YtanknpdibjfmlaaPx1
import Derived.Test.YtanknpdibjfmlaaPx7
namespace Go.Proofs.Ytanknpdibjfmlaa.Al
open Go Go.RowKit Go.Proofs.YtanknpdibjfmlaaW.PrintWords Go.Proofs.YtanknpdibjfmlaaW.PrintMore Go.Proofs.Ytanknpdibjfmlaa.P
set_option linter.unusedVariables false
set_option linter.unusedSimpArgs false

theorem Ev.pos {α : Type} {c : Prop} [Decidable c] {A B : Nat → Option α} {r : α} (h : c) (hA : Ev A r) : Ev (fun k => if c then A k else B k) r := by
  simp only [if_pos h]; exact hA
theorem Ev.neg {α : Type} {c : Prop} [Decidable c] {A B : Nat → Option α} {r : α} (h : ¬ c) (hB : Ev B r) : Ev (fun k => if c then A k else B k) r := by
  simp only [if_neg h]; exact hB
theorem evc {α : Type} {g : Nat → Option α} {r r' : α} (h : Ev g r) (e : r = r') : Ev g r' := e ▸ h
theorem Ev.somef {α β : Type} {f : Nat → α → Option β} {a : α} {r : β} (h : Ev (fun k => f k a) r) : Ev (fun k => (some a).bind (f k)) r := h
theorem wrap_sm {x : Int} (h0 : -9223372036854775808 ≤ x) (h1 : x ≤ 9223372036854775807) : wrap64 x = x := by unfold wrap64; omega

def tm (a : G) : G := ⟨xt a.v⟩
theorem twice_all : ∀ a : Fin 256, gf_twice.f (a.val : Int) = some ((xt (BitVec.ofFin a)).toNat : Int) := by decide +kernel
theorem twice_i (a : G) : gf_twice.f a.i = some (tm a).i := twice_all a.v.toFin
theorem and_one {x : Int} (h0 : 0 ≤ x) (h1 : x < 256) : Go.bits .and .u8 x 1 = x % 2 := bits_mask .u8 8 (by decide) wraps_u8 1 (by decide) x h0 h1

def gmN : Nat → G → Nat → G
  | 0, _, _ => 0
  | n + 1, a, b => (if b % 2 = 1 then a else 0) + gmN n (tm a) (b / 2)
theorem gmN_zero (n : Nat) (a : G) : gmN n a 0 = 0 := by
  induction n generalizing a with
  | zero => rfl
  | succ n ih => rw [gmN, if_neg (by decide), Nat.zero_div, ih, add_zero]
theorem bit_cb (b : BitVec 8) (i : Nat) (a : G) : (if b.toNat / 2 ^ i % 2 = 1 then a else 0) = (⟨cb (b.getLsbD i) a.v⟩ : G) := by
  have h : b.getLsbD i = decide (b.toNat / 2 ^ i % 2 = 1) := by
    rw [BitVec.getLsbD, Nat.testBit_eq_decide_div_mod_eq]
  rw [h]
  by_cases e : b.toNat / 2 ^ i % 2 = 1
  · rw [if_pos e, decide_eq_true e]; rfl
  · rw [if_neg e, decide_eq_false e]; rfl
theorem mul_gmN (a b : G) : a * b = gmN 8 a b.v.toNat := by
  simp only [gmN, Nat.div_div_eq_div_mul]
  have h0 := bit_cb b.v 0 a
  simp only [Nat.pow_zero, Nat.div_one] at h0
  rw [h0, bit_cb b.v 1, bit_cb b.v 2, bit_cb b.v 3, bit_cb b.v 4, bit_cb b.v 5, bit_cb b.v 6, bit_cb b.v 7, add_zero]
  rfl
theorem mul_l0 (n : Nat) : ∀ (a : G) (b : Nat) (o : G), b < 2 ^ n → b < 256 → Ev (fun k => gf_Mul.l0 k a.i (b : Int) o.i) (o + gmN n a b).i := by
  induction n with
  | zero =>
    intro a b o h _
    obtain rfl : b = 0 := by omega
    refine Ev.step (fun k => gf_Mul.l0.eq_2 _ _ _ _) (Ev.pos rfl ?_)
    rw [gmN, add_zero]
    exact Ev.now _
  | succ n ih =>
    intro a b o h h1
    refine Ev.step (fun k => gf_Mul.l0.eq_2 _ _ _ _) ?_
    by_cases hb : b = 0
    · subst hb
      refine Ev.pos rfl ?_
      rw [gmN_zero, add_zero]
      exact Ev.now _
    · refine Ev.neg (by omega) ?_
      rw [and_one (by omega) (by omega), twice_i]
      have hd : ((b : Int) / 2) = ((b / 2 : Nat) : Int) := by omega
      rw [hd]
      by_cases ho : b % 2 = 1
      · refine Ev.neg (by omega) ?_
        rw [xor_i]
        refine evc (ih (tm a) (b / 2) (o + a) (by rw [Nat.pow_succ] at h; omega) (by omega)) ?_
        rw [gmN, if_pos ho, add_assoc]
      · refine Ev.pos (by omega) ?_
        refine evc (ih (tm a) (b / 2) o (by rw [Nat.pow_succ] at h; omega) (by omega)) ?_
        rw [gmN, if_neg ho, zero_add]
theorem mul_ev (a b : G) : Ev (fun k => gf_Mul.f k a.i b.i) (a * b).i := by
  have h := mul_l0 8 a b.v.toNat 0 b.v.isLt b.v.isLt
  rw [zero_add, ← mul_gmN] at h
  exact h

/-! the document's product -/
def X : Nat → G
  | 0 => 1
  | n + 1 => tm (X n)
def phi (P : Nat) : G := sum (fun i => if P.testBit i then X i else 0) 15
theorem phi_xor (P Q : Nat) : phi (P ^^^ Q) = phi P + phi Q := by
  unfold phi
  rw [← sum_add]
  apply sum_congr
  intro i _
  rw [Nat.testBit_xor]
  cases P.testBit i <;> cases Q.testBit i <;> simp [add_self, add_zero, zero_add]
theorem phi_mod : ∀ j : Fin 7, phi (285 * 2 ^ j.val) = 0 := by decide +kernel
theorem phi_small : ∀ a : Fin 256, phi a.val = ⟨BitVec.ofFin a⟩ := by decide +kernel
theorem phi_shift : ∀ (i : Fin 8) (a : Fin 256), phi (a.val * 2 ^ i.val) = ⟨BitVec.ofFin a⟩ * ⟨1#8 <<< i.val⟩ := by decide +kernel
def part (a : G) (b n : Nat) : G := sum (fun i => if b / 2 ^ i % 2 = 1 then a * ⟨1#8 <<< i⟩ else 0) n
theorem part_all (a b : G) : part a b.v.toNat 8 = a * b := by
  have h := sum_bits b.v.toFin
  rw [show (BitVec.ofFin b.v.toFin : BitVec 8) = b.v from rfl] at h
  have hb : b = (⟨cb (b.v.getLsbD 0) 1#8⟩ : G) + ((⟨cb (b.v.getLsbD 1) 2#8⟩ : G) + ((⟨cb (b.v.getLsbD 2) 4#8⟩ : G) + ((⟨cb (b.v.getLsbD 3) 8#8⟩ : G) + ((⟨cb (b.v.getLsbD 4) 16#8⟩ : G) + ((⟨cb (b.v.getLsbD 5) 32#8⟩ : G) + ((⟨cb (b.v.getLsbD 6) 64#8⟩ : G) + (⟨cb (b.v.getLsbD 7) 128#8⟩ : G))))))) := G.eq_of h
  have hi : ∀ i, (if b.v.toNat / 2 ^ i % 2 = 1 then a * ⟨1#8 <<< i⟩ else 0) = a * (⟨cb (b.v.getLsbD i) (1#8 <<< i)⟩ : G) := by
    intro i
    have := bit_cb b.v i (⟨1#8 <<< i⟩ : G)
    rw [← this]
    split
    · rfl
    · rw [mul_zero]
  have hs : part a b.v.toNat 8 = sum (fun i => a * (⟨cb (b.v.getLsbD i) (1#8 <<< i)⟩ : G)) 8 := sum_congr (fun i _ => hi i)
  rw [hs, sum_mul]
  congr 1
  conv => rhs; rw [hb]
  simp only [sum_succ, sum_zero, zero_add]
  show _ + (⟨cb (b.v.getLsbD 7) 128#8⟩ : G) = _
  simp only [add_assoc]
  rfl
theorem xor_nat {a b : Nat} (ha : a < 32768) (hb : b < 32768) : Go.bits .xor .i64 (a : Int) (b : Int) = ((a ^^^ b : Nat) : Int) := by
  unfold Go.bits
  have hx : a ^^^ b < 2 ^ 15 := Nat.xor_lt_two_pow ha hb
  show IntKind.i64.wrap ((BitVec.ofInt 64 (a : Int) ^^^ BitVec.ofInt 64 (b : Int)).toNat : Int) = _
  simp only [BitVec.ofInt_natCast, BitVec.toNat_xor, BitVec.toNat_ofNat]
  rw [Nat.mod_eq_of_lt (by omega), Nat.mod_eq_of_lt (by omega), IntKind.wrap_i64]
  omega
theorem xor_top {P i : Nat} (hi : 8 ≤ i) (h0 : 2 ^ i ≤ P) (h1 : P < 2 ^ (i + 1)) : P ^^^ (285 * 2 ^ (i - 8)) < 2 ^ i := by
  apply Nat.lt_pow_two_of_testBit
  intro j hj
  have hq : 285 * 2 ^ (i - 8) < 2 ^ (i + 1) := by
    have : 2 ^ (i + 1) = 512 * 2 ^ (i - 8) := by
      rw [show (512 : Nat) = 2 ^ 9 from rfl, ← Nat.pow_add]
      congr 1; omega
    rw [this]
    have := Nat.two_pow_pos (i - 8)
    omega
  have hq0 : 2 ^ i ≤ 285 * 2 ^ (i - 8) := by
    have : 2 ^ i = 256 * 2 ^ (i - 8) := by
      rw [show (256 : Nat) = 2 ^ 8 from rfl, ← Nat.pow_add]
      congr 1; omega
    rw [this]
    have := Nat.two_pow_pos (i - 8)
    omega
  rw [Nat.testBit_xor]
  by_cases e : j = i
  · subst e
    have h2 : ∀ Q, 2 ^ j ≤ Q → Q < 2 ^ (j + 1) → Q.testBit j = true := by
      intro Q h2 h3
      rw [Nat.testBit_eq_decide_div_mod_eq]
      have : Q / 2 ^ j = 1 := by
        apply Nat.div_eq_of_lt_le
        · rw [Nat.one_mul]; exact h2
        · rw [Nat.pow_succ] at h3; omega
      rw [this]
      rfl
    rw [h2 _ h0 h1, h2 _ hq0 hq]
    rfl
  · have hle : 2 ^ (i + 1) ≤ 2 ^ j := Nat.pow_le_pow_right (by decide) (by omega)
    rw [Nat.testBit_lt_two_pow (by omega), Nat.testBit_lt_two_pow (by omega)]
    rfl
theorem ref_l1 (n : Nat) : ∀ (P : Nat), P < 2 ^ (8 + n) → n ≤ 7 → Ev (fun k => footlockerref01_Mul.l1 k (P : Int) ((7 + n : Nat) : Int)) (phi P).i := by
  induction n with
  | zero =>
    intro P h _
    refine Ev.step (fun k => footlockerref01_Mul.l1.eq_2 _ _ _) (Ev.neg (by omega) ?_)
    have hs := phi_small ⟨P, h⟩
    have : (phi P).i = (P : Int) % 256 := by
      rw [hs]
      show (P : Int) = _
      omega
    rw [this]
    exact Ev.now _
  | succ n ih =>
    intro P h hn
    have hb : P < 32768 := Nat.lt_of_lt_of_le h (show 2 ^ (8 + (n + 1)) ≤ 2 ^ 15 from Nat.pow_le_pow_right (by decide) (by omega))
    refine Ev.step (fun k => footlockerref01_Mul.l1.eq_2 _ _ _) (Ev.pos (by omega) (Ev.pos (by omega) ?_))
    have hw1 : wrap64 (((7 + (n + 1) : Nat) : Int) - 8) = (n : Int) := by rw [wrap_sm (by omega) (by omega)]; omega
    have hw2 : wrap64 (((7 + (n + 1) : Nat) : Int) - 1) = ((7 + n : Nat) : Int) := by rw [wrap_sm (by omega) (by omega)]; omega
    rw [hw1, hw2]
    have hsh : shr .i64 (P : Int) ((7 + (n + 1) : Nat) : Int) = ((P / 2 ^ (8 + n) : Nat) : Int) := by
      unfold shr
      rw [show min (((7 + (n + 1) : Nat) : Int)).toNat (IntKind.bits .i64) = 8 + n by
        rw [Int.toNat_natCast]; show min (7 + (n + 1)) 64 = _; omega]
      norm_cast
    rw [hsh]
    have hlt : P / 2 ^ (8 + n) < 2 := by
      rw [Nat.div_lt_iff_lt_mul (Nat.two_pow_pos _), Nat.mul_comm, ← Nat.pow_succ]
      exact h
    by_cases hp : 2 ^ (8 + n) ≤ P
    · have h1 : P / 2 ^ (8 + n) = 1 := by
        have := Nat.div_pos hp (Nat.two_pow_pos _)
        omega
      rw [h1]
      refine Ev.pos (by decide) (Ev.pos (by omega) ?_)
      have hshl : shl .i64 285 (n : Int) = ((285 * 2 ^ n : Nat) : Int) := by
        unfold shl
        rw [show min ((n : Int)).toNat (IntKind.bits .i64) = n by rw [Int.toNat_natCast]; show min n 64 = _; omega]
        have hle : (2 : Nat) ^ n ≤ 64 := Nat.pow_le_pow_right (n := 2) (by decide) (show n ≤ 6 by omega)
        have : (285 * 2 ^ n : Int) = ((285 * 2 ^ n : Nat) : Int) := by rw [Int.natCast_mul, Int.natCast_pow]; rfl
        rw [this, IntKind.wrap_i64]
        omega
      have hle : 285 * 2 ^ n < 32768 := by
        have hle : (2 : Nat) ^ n ≤ 64 := Nat.pow_le_pow_right (n := 2) (by decide) (show n ≤ 6 by omega)
        omega
      rw [hshl, xor_nat hb hle]
      have ht := xor_top (i := 8 + n) (by omega) hp h
      rw [show 8 + n - 8 = n by omega] at ht
      refine evc (ih _ ht (by omega)) ?_
      rw [phi_xor, phi_mod ⟨n, by omega⟩, add_zero]
    · rw [Nat.div_eq_of_lt (by omega)]
      exact Ev.neg (by decide) (ih P (by omega) (by omega))
theorem ref_l0 (n : Nat) (a b : G) : ∀ (i P : Nat), i + n = 8 → P < 32768 → phi P = part a b.v.toNat i → Ev (fun k => footlockerref01_Mul.l0 k a.i b.i (P : Int) (i : Int)) (a * b).i := by
  induction n with
  | zero =>
    intro i P hi hP hs
    obtain rfl : i = 8 := by omega
    refine Ev.step (fun k => footlockerref01_Mul.l0.eq_2 _ _ _ _ _) (Ev.neg (by omega) ?_)
    rw [part_all] at hs
    rw [← hs]
    exact ref_l1 7 P hP (by omega)
  | succ n ih =>
    intro i P hi hP hs
    refine Ev.step (fun k => footlockerref01_Mul.l0.eq_2 _ _ _ _ _) (Ev.pos (by omega) (Ev.pos (by omega) ?_))
    have hw : wrap64 ((i : Int) + 1) = ((i + 1 : Nat) : Int) := by rw [wrap_sm (by omega) (by omega)]; omega
    rw [hw]
    have hsh : shr .u8 b.i (i : Int) = ((b.v.toNat / 2 ^ i : Nat) : Int) := by
      unfold shr G.i
      rw [show min ((i : Int)).toNat (IntKind.bits .u8) = i by rw [Int.toNat_natCast]; show min i 8 = _; omega]
      norm_cast
    rw [hsh]
    have htm : Int.tmod ((b.v.toNat / 2 ^ i : Nat) : Int) 2 = ((b.v.toNat / 2 ^ i % 2 : Nat) : Int) := by
      rw [Int.tmod_eq_emod_of_nonneg (Int.natCast_nonneg _)]
      rfl
    rw [htm]
    have hs1 : part a b.v.toNat (i + 1) = part a b.v.toNat i + (if b.v.toNat / 2 ^ i % 2 = 1 then a * ⟨1#8 <<< i⟩ else 0) := rfl
    by_cases ho : b.v.toNat / 2 ^ i % 2 = 1
    · refine Ev.pos (by omega) ?_
      have hwa : wrap64 a.i = a.i := wrap_sm (by have := i_nonneg a; omega) (by have := i_le a; omega)
      have hle : (2 : Nat) ^ i ≤ 128 := Nat.pow_le_pow_right (n := 2) (by decide) (show i ≤ 7 by omega)
      have hal := a.v.isLt
      have hmul : a.v.toNat * 2 ^ i ≤ 255 * 128 := Nat.mul_le_mul (by omega) hle
      have hps : phi (a.v.toNat * 2 ^ i) = a * ⟨1#8 <<< i⟩ := phi_shift ⟨i, by omega⟩ a.v.toFin
      have hcast : ((a.v.toNat : Int) * 2 ^ i : Int) = ((a.v.toNat * 2 ^ i : Nat) : Int) := by rw [Int.natCast_mul, Int.natCast_pow]; rfl
      have hshl : shl .i64 (wrap64 a.i) (i : Int) = IntKind.i64.wrap ((a.v.toNat * 2 ^ i : Nat) : Int) := by
        rw [hwa]
        unfold shl G.i
        rw [show min ((i : Int)).toNat (IntKind.bits .i64) = i by rw [Int.toNat_natCast]; show min i 64 = _; omega]
        rw [hcast]
      rw [hshl]
      clear hshl hcast hle
      generalize a.v.toNat * 2 ^ i = M at hmul hps
      have hM : M < 32768 := by omega
      have hwM : IntKind.i64.wrap (M : Int) = (M : Int) := by rw [IntKind.wrap_i64]; omega
      rw [hwM, xor_nat hP hM]
      refine ih (i + 1) _ (by omega) (Nat.xor_lt_two_pow (n := 15) hP hM) ?_
      rw [phi_xor, hs, hs1, if_pos ho, hps]
    · refine Ev.neg (by omega) ?_
      exact ih (i + 1) P (by omega) hP (by rw [hs, hs1, if_neg ho, add_zero])
theorem refmul_ev (a b : G) : Ev (fun k => footlockerref01_Mul.f k a.i b.i) (a * b).i :=
  ref_l0 8 a b 0 0 rfl (by decide) (by
    have : phi 0 = 0 := phi_small 0
    rw [this]; rfl)
end Go.Proofs.Ytanknpdibjfmlaa.Al
