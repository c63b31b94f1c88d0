/- Bytes as a field of 256 elements: sums, products, inverses and their laws. No conditions. -/
import Derived.Laws.BitsLemmas
import Derived.Test.YtanknpdibjfmlaaWWords
import Derived.Test.YtanknpdibjfmlaaWMore
namespace Go.Proofs.Ytanknpdibjfmlaa.Al
open Go Go.Proofs.YtanknpdibjfmlaaW.PrintWords Go.Proofs.YtanknpdibjfmlaaW.PrintMore

structure G where
  v : BitVec 8

theorem G.eq_of {a b : G} (h : a.v = b.v) : a = b := by cases a; cases b; simp_all
instance : DecidableEq G := fun a b => if h : a.v = b.v then .isTrue (G.eq_of h) else .isFalse (fun e => h (by rw [e]))
instance : Zero G := ⟨⟨0#8⟩⟩
instance : Add G := ⟨fun a b => ⟨a.v ^^^ b.v⟩⟩
def xt (a : BitVec 8) : BitVec 8 := (a <<< 1) ^^^ (if a.getLsbD 7 then 0x1D#8 else 0#8)
def cb (c : Bool) (a : BitVec 8) : BitVec 8 := if c then a else 0#8
def gm (a b : BitVec 8) : BitVec 8 :=
  cb (b.getLsbD 0) a ^^^ (cb (b.getLsbD 1) (xt a) ^^^ (cb (b.getLsbD 2) (xt (xt a)) ^^^ (cb (b.getLsbD 3) (xt (xt (xt a))) ^^^ (cb (b.getLsbD 4) (xt (xt (xt (xt a)))) ^^^
    (cb (b.getLsbD 5) (xt (xt (xt (xt (xt a))))) ^^^ (cb (b.getLsbD 6) (xt (xt (xt (xt (xt (xt a)))))) ^^^ cb (b.getLsbD 7) (xt (xt (xt (xt (xt (xt (xt a))))))))))))) 
instance : One G := ⟨⟨1#8⟩⟩
instance : Mul G := ⟨fun a b => ⟨gm a.v b.v⟩⟩
theorem zero_v : (0 : G).v = 0#8 := rfl
theorem one_v : (1 : G).v = 1#8 := rfl
theorem add_v (a b : G) : (a + b).v = a.v ^^^ b.v := rfl
theorem mul_v (a b : G) : (a * b).v = gm a.v b.v := rfl

theorem cb_xor (c d : Bool) (a : BitVec 8) : cb (c ^^ d) a = cb c a ^^^ cb d a := by
  cases c <;> cases d <;> simp [cb]
theorem cb_add (c : Bool) (a b : BitVec 8) : cb c (a ^^^ b) = cb c a ^^^ cb c b := by
  cases c <;> simp [cb]
theorem xt_add (a b : BitVec 8) : xt (a ^^^ b) = xt a ^^^ xt b := by
  unfold xt
  have h : (a ^^^ b).getLsbD 7 = (a.getLsbD 7 ^^ b.getLsbD 7) := by simp
  have e : ∀ c : Bool, (if c then 0x1D#8 else 0#8) = cb c 0x1D#8 := fun _ => rfl
  rw [h, e, e, e, cb_xor, BitVec.shiftLeft_xor_distrib]
  ac_rfl
theorem gm_xor_right (a b c : BitVec 8) : gm a (b ^^^ c) = gm a b ^^^ gm a c := by
  unfold gm
  simp only [BitVec.getLsbD_xor, cb_xor]
  ac_rfl
theorem gm_xor_left (a b c : BitVec 8) : gm (a ^^^ b) c = gm a c ^^^ gm b c := by
  unfold gm
  simp only [xt_add, cb_add]
  ac_rfl
theorem sum_bits : ∀ a : Fin 256, (BitVec.ofFin a : BitVec 8) = cb ((BitVec.ofFin a : BitVec 8).getLsbD 0) 1#8 ^^^ (cb ((BitVec.ofFin a : BitVec 8).getLsbD 1) 2#8 ^^^ (cb ((BitVec.ofFin a : BitVec 8).getLsbD 2) 4#8 ^^^ (cb ((BitVec.ofFin a : BitVec 8).getLsbD 3) 8#8 ^^^ (cb ((BitVec.ofFin a : BitVec 8).getLsbD 4) 16#8 ^^^
    (cb ((BitVec.ofFin a : BitVec 8).getLsbD 5) 32#8 ^^^ (cb ((BitVec.ofFin a : BitVec 8).getLsbD 6) 64#8 ^^^ cb ((BitVec.ofFin a : BitVec 8).getLsbD 7) 128#8)))))) := by decide +kernel
theorem basis_ind (P : BitVec 8 → Prop) (h0 : P 0#8) (ha : ∀ a b, P a → P b → P (a ^^^ b)) (hb : ∀ i : Fin 8, P (1#8 <<< i.val)) (a : BitVec 8) : P a := by
  have hc : ∀ (c : Bool) (x : BitVec 8), P x → P (cb c x) := by
    intro c x hx
    cases c
    · exact h0
    · exact hx
  have h := sum_bits a.toFin
  rw [show (BitVec.ofFin a.toFin : BitVec 8) = a from rfl] at h
  rw [h]
  exact ha _ _ (hc _ _ (hb 0)) (ha _ _ (hc _ _ (hb 1)) (ha _ _ (hc _ _ (hb 2)) (ha _ _ (hc _ _ (hb 3)) (ha _ _ (hc _ _ (hb 4)) (ha _ _ (hc _ _ (hb 5)) (ha _ _ (hc _ _ (hb 6)) (hc _ _ (hb 7))))))))
theorem gm_zero_right (a : BitVec 8) : gm a 0#8 = 0#8 := by simp [gm, cb]
theorem gm_zero_left (a : BitVec 8) : gm 0#8 a = 0#8 := by
  have h : xt 0#8 = 0#8 := rfl
  have e : ∀ c, cb c 0#8 = 0#8 := by intro c; cases c <;> rfl
  simp [gm, h, e]
theorem comm_basis : ∀ i j : Fin 8, gm (1#8 <<< i.val) (1#8 <<< j.val) = gm (1#8 <<< j.val) (1#8 <<< i.val) := by decide +kernel
theorem assoc_basis : ∀ i j k : Fin 8, gm (gm (1#8 <<< i.val) (1#8 <<< j.val)) (1#8 <<< k.val) = gm (1#8 <<< i.val) (gm (1#8 <<< j.val) (1#8 <<< k.val)) := by decide +kernel
theorem gm_comm (a b : BitVec 8) : gm a b = gm b a := by
  refine basis_ind (fun a => gm a b = gm b a) ?_ ?_ ?_ a
  · rw [gm_zero_left, gm_zero_right]
  · intro x y hx hy
    rw [gm_xor_left, gm_xor_right, hx, hy]
  · intro i
    refine basis_ind (fun b => gm (1#8 <<< i.val) b = gm b (1#8 <<< i.val)) ?_ ?_ ?_ b
    · rw [gm_zero_left, gm_zero_right]
    · intro x y hx hy
      rw [gm_xor_left, gm_xor_right, hx, hy]
    · exact fun j => comm_basis i j
theorem gm_assoc (a b c : BitVec 8) : gm (gm a b) c = gm a (gm b c) := by
  refine basis_ind (fun a => gm (gm a b) c = gm a (gm b c)) ?_ ?_ ?_ a
  · simp only [gm_zero_left]
  · intro x y hx hy
    simp only [gm_xor_left, hx, hy]
  · intro i
    refine basis_ind (fun b => gm (gm (1#8 <<< i.val) b) c = gm (1#8 <<< i.val) (gm b c)) ?_ ?_ ?_ b
    · simp only [gm_zero_left, gm_zero_right]
    · intro x y hx hy
      simp only [gm_xor_left, gm_xor_right, hx, hy]
    · intro j
      refine basis_ind (fun c => gm (gm (1#8 <<< i.val) (1#8 <<< j.val)) c = gm (1#8 <<< i.val) (gm (1#8 <<< j.val) c)) ?_ ?_ ?_ c
      · simp only [gm_zero_right]
      · intro x y hx hy
        simp only [gm_xor_right, hx, hy]
      · exact fun k => assoc_basis i j k
theorem gm_one (a : BitVec 8) : gm a 1#8 = a := by
  have : ∀ a : Fin 256, gm (BitVec.ofFin a) 1#8 = BitVec.ofFin a := by decide +kernel
  exact this a.toFin

/-! the laws at G -/
theorem add_comm (a b : G) : a + b = b + a := G.eq_of (BitVec.xor_comm _ _)
theorem add_assoc (a b c : G) : a + b + c = a + (b + c) := G.eq_of (BitVec.xor_assoc _ _ _)
theorem add_left_comm (a b c : G) : a + (b + c) = b + (a + c) := by rw [← add_assoc, add_comm a b, add_assoc]
theorem add_zero (a : G) : a + 0 = a := G.eq_of (by simp [add_v, zero_v])
theorem zero_add (a : G) : 0 + a = a := by rw [add_comm, add_zero]
theorem add_self (a : G) : a + a = 0 := G.eq_of (by simp [add_v, zero_v])
theorem add_add_self (a b : G) : a + (a + b) = b := by rw [← add_assoc, add_self, zero_add]
theorem add_eq_zero {a b : G} : a + b = 0 ↔ a = b := by
  constructor
  · intro h
    have := add_add_self a b
    rw [h, add_zero] at this
    exact this
  · rintro rfl
    exact add_self a
theorem add_right_inj {a b c : G} (h : a + b = a + c) : b = c := by
  have := congrArg (a + ·) h
  simpa only [add_add_self] using this
theorem mul_comm (a b : G) : a * b = b * a := G.eq_of (gm_comm _ _)
theorem mul_assoc (a b c : G) : a * b * c = a * (b * c) := G.eq_of (gm_assoc _ _ _)
theorem mul_left_comm (a b c : G) : a * (b * c) = b * (a * c) := by rw [← mul_assoc, mul_comm a b, mul_assoc]
theorem mul_add (a b c : G) : a * (b + c) = a * b + a * c := G.eq_of (gm_xor_right _ _ _)
theorem add_mul (a b c : G) : (a + b) * c = a * c + b * c := G.eq_of (gm_xor_left _ _ _)
theorem mul_zero (a : G) : a * 0 = 0 := G.eq_of (gm_zero_right _)
theorem zero_mul (a : G) : 0 * a = 0 := G.eq_of (gm_zero_left _)
theorem mul_one (a : G) : a * 1 = a := G.eq_of (gm_one _)
theorem one_mul (a : G) : 1 * a = a := by rw [mul_comm, mul_one]
theorem one_ne_zero : (1 : G) ≠ 0 := by decide
/-- by squaring, as the program does -/
def p254 (a : G) : G :=
  let b := a * a
  let c := b * b
  let d := c * c
  let e := d * d
  let f := e * e
  let g := f * f
  let h := g * g
  b * c * d * e * f * g * h
instance : Std.Commutative (α := G) (· + ·) := ⟨add_comm⟩
instance : Std.Associative (α := G) (· + ·) := ⟨add_assoc⟩
instance : Std.Commutative (α := G) (· * ·) := ⟨mul_comm⟩
instance : Std.Associative (α := G) (· * ·) := ⟨mul_assoc⟩
theorem inv_all : ∀ a : Fin 256, a.val ≠ 0 → (⟨BitVec.ofFin a⟩ : G) * p254 ⟨BitVec.ofFin a⟩ = 1 := by decide +kernel
def inv (a : G) : G := p254 a
theorem mul_inv {a : G} (h : a ≠ 0) : a * inv a = 1 := by
  have := inv_all a.v.toFin (by
    intro e
    apply h
    apply G.eq_of
    exact BitVec.eq_of_toNat_eq e)
  exact this
theorem inv_zero : inv 0 = 0 := by decide +kernel
theorem inv_mul {a : G} (h : a ≠ 0) : inv a * a = 1 := by rw [mul_comm, mul_inv h]
theorem mul_eq_zero {a b : G} : a * b = 0 ↔ a = 0 ∨ b = 0 := by
  constructor
  · intro h
    by_cases ha : a = 0
    · exact .inl ha
    · right
      have := congrArg (inv a * ·) h
      simp only [← mul_assoc, inv_mul ha, one_mul, mul_zero] at this
      exact this
  · rintro (rfl | rfl)
    · exact zero_mul _
    · exact mul_zero _
theorem mul_ne_zero {a b : G} (ha : a ≠ 0) (hb : b ≠ 0) : a * b ≠ 0 := fun h => (mul_eq_zero.1 h).elim ha hb
theorem mul_left_inj {a b c : G} (ha : a ≠ 0) (h : a * b = a * c) : b = c := by
  have := congrArg (inv a * ·) h
  simpa only [← mul_assoc, inv_mul ha, one_mul] using this
theorem inv_unique {a b : G} (h : a * b = 1) : b = inv a := by
  have ha : a ≠ 0 := by
    rintro rfl
    rw [zero_mul] at h
    exact one_ne_zero h.symm
  exact mul_left_inj ha (h.trans (mul_inv ha).symm)
theorem inv_ne_zero {a : G} (h : a ≠ 0) : inv a ≠ 0 := by
  intro e
  have := mul_inv h
  rw [e, mul_zero] at this
  exact one_ne_zero this.symm

/-! bytes as numbers -/
def G.i (a : G) : Int := (a.v.toNat : Int)
def G.of (x : Int) : G := ⟨BitVec.ofInt 8 x⟩
theorem i_nonneg (a : G) : 0 ≤ a.i := by unfold G.i; omega
theorem i_lt (a : G) : a.i < 256 := by unfold G.i; have := a.v.isLt; omega
theorem i_le (a : G) : a.i ≤ 255 := by have := i_lt a; omega
theorem i_inj {a b : G} : a.i = b.i ↔ a = b := by
  constructor
  · intro h
    apply G.eq_of
    apply BitVec.eq_of_toNat_eq
    unfold G.i at h
    omega
  · rintro rfl
    rfl
theorem of_i (a : G) : G.of a.i = a := by
  apply G.eq_of
  simp [G.of, G.i]
theorem i_of {x : Int} (h0 : 0 ≤ x) (h1 : x < 256) : (G.of x).i = x := by
  simp only [G.of, G.i, BitVec.toNat_ofInt]
  omega
theorem i_zero : (0 : G).i = 0 := rfl
theorem i_one : (1 : G).i = 1 := rfl
theorem i_eq_zero {a : G} : a.i = 0 ↔ a = 0 := by rw [← i_zero, i_inj]
theorem xor_i (a b : G) : Go.bits .xor .u8 a.i b.i = (a + b).i := by
  unfold Go.bits G.i
  simp only [IntKind.wrap_u8]
  show ((BitVec.ofInt 8 (a.v.toNat : Int) ^^^ BitVec.ofInt 8 (b.v.toNat : Int)).toNat : Int) % 256 = ((a.v ^^^ b.v).toNat : Int)
  simp only [BitVec.ofInt_natCast, BitVec.ofNat_toNat, BitVec.setWidth_eq]
  have := (a.v ^^^ b.v).isLt
  omega
end Go.Proofs.Ytanknpdibjfmlaa.Al
