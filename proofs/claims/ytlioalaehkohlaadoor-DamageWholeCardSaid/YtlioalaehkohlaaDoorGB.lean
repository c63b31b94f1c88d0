/- Joined texts of own work. Conditions: as each theorem states them. -/
import Derived.Laws.BitsLemmas
import Derived.Test.YtlioalaehkohlaaDoorGA
namespace Go.Proofs.YtlioalaehkohlaaDoor.Al
open Go
set_option linter.unusedVariables false
set_option linter.unusedSimpArgs false
set_option linter.unusedSectionVars false

structure G where
  v : BitVec 8

theorem G.eq_of {a b : G} (h : a.v = b.v) : a = b := by cases a; cases b; simp_all
instance : DecidableEq G := fun a b => if h : a.v = b.v then .isTrue (G.eq_of h) else .isFalse (fun e => h (by rw [e]))
instance : Zero G := ⟨⟨0#8⟩⟩
instance : Add G := ⟨fun a b => ⟨a.v ^^^ b.v⟩⟩
def xt (a : BitVec 8) : BitVec 8 := (a <<< 1) ^^^ (if a.getLsbD 7 then 0x1D#8 else 0#8)
def cb (c : Bool) (a : BitVec 8) : BitVec 8 := if c then a else 0#8
def gm (a b : BitVec 8) : BitVec 8 :=
  cb (b.getLsbD 0) a ^^^ (cb (b.getLsbD 1) (xt a) ^^^ (cb (b.getLsbD 2) (xt (xt a)) ^^^ (cb (b.getLsbD 3) (xt (xt (xt a))) ^^^ (cb (b.getLsbD 4) (xt (xt (xt (xt a)))) ^^^
    (cb (b.getLsbD 5) (xt (xt (xt (xt (xt a))))) ^^^ (cb (b.getLsbD 6) (xt (xt (xt (xt (xt (xt a)))))) ^^^ cb (b.getLsbD 7) (xt (xt (xt (xt (xt (xt (xt a))))))))))))) 
instance : One G := ⟨⟨1#8⟩⟩
instance : Mul G := ⟨fun a b => ⟨gm a.v b.v⟩⟩
theorem zero_v : (0 : G).v = 0#8 := rfl
theorem one_v : (1 : G).v = 1#8 := rfl
theorem add_v (a b : G) : (a + b).v = a.v ^^^ b.v := rfl
theorem mul_v (a b : G) : (a * b).v = gm a.v b.v := rfl

theorem cb_xor (c d : Bool) (a : BitVec 8) : cb (c ^^ d) a = cb c a ^^^ cb d a := by
  cases c <;> cases d <;> simp [cb]
theorem cb_add (c : Bool) (a b : BitVec 8) : cb c (a ^^^ b) = cb c a ^^^ cb c b := by
  cases c <;> simp [cb]
theorem xt_add (a b : BitVec 8) : xt (a ^^^ b) = xt a ^^^ xt b := by
  unfold xt
  have h : (a ^^^ b).getLsbD 7 = (a.getLsbD 7 ^^ b.getLsbD 7) := by simp
  have e : ∀ c : Bool, (if c then 0x1D#8 else 0#8) = cb c 0x1D#8 := fun _ => rfl
  rw [h, e, e, e, cb_xor, BitVec.shiftLeft_xor_distrib]
  ac_rfl
theorem gm_xor_right (a b c : BitVec 8) : gm a (b ^^^ c) = gm a b ^^^ gm a c := by
  unfold gm
  simp only [BitVec.getLsbD_xor, cb_xor]
  ac_rfl
theorem gm_xor_left (a b c : BitVec 8) : gm (a ^^^ b) c = gm a c ^^^ gm b c := by
  unfold gm
  simp only [xt_add, cb_add]
  ac_rfl
theorem sum_bits : ∀ a : Fin 256, (BitVec.ofFin a : BitVec 8) = cb ((BitVec.ofFin a : BitVec 8).getLsbD 0) 1#8 ^^^ (cb ((BitVec.ofFin a : BitVec 8).getLsbD 1) 2#8 ^^^ (cb ((BitVec.ofFin a : BitVec 8).getLsbD 2) 4#8 ^^^ (cb ((BitVec.ofFin a : BitVec 8).getLsbD 3) 8#8 ^^^ (cb ((BitVec.ofFin a : BitVec 8).getLsbD 4) 16#8 ^^^
    (cb ((BitVec.ofFin a : BitVec 8).getLsbD 5) 32#8 ^^^ (cb ((BitVec.ofFin a : BitVec 8).getLsbD 6) 64#8 ^^^ cb ((BitVec.ofFin a : BitVec 8).getLsbD 7) 128#8)))))) := by decide +kernel
theorem basis_ind (P : BitVec 8 → Prop) (h0 : P 0#8) (ha : ∀ a b, P a → P b → P (a ^^^ b)) (hb : ∀ i : Fin 8, P (1#8 <<< i.val)) (a : BitVec 8) : P a := by
  have hc : ∀ (c : Bool) (x : BitVec 8), P x → P (cb c x) := by
    intro c x hx
    cases c
    · exact h0
    · exact hx
  have h := sum_bits a.toFin
  rw [show (BitVec.ofFin a.toFin : BitVec 8) = a from rfl] at h
  rw [h]
  exact ha _ _ (hc _ _ (hb 0)) (ha _ _ (hc _ _ (hb 1)) (ha _ _ (hc _ _ (hb 2)) (ha _ _ (hc _ _ (hb 3)) (ha _ _ (hc _ _ (hb 4)) (ha _ _ (hc _ _ (hb 5)) (ha _ _ (hc _ _ (hb 6)) (hc _ _ (hb 7))))))))
theorem gm_zero_right (a : BitVec 8) : gm a 0#8 = 0#8 := by simp [gm, cb]
theorem gm_zero_left (a : BitVec 8) : gm 0#8 a = 0#8 := by
  have h : xt 0#8 = 0#8 := rfl
  have e : ∀ c, cb c 0#8 = 0#8 := by intro c; cases c <;> rfl
  simp [gm, h, e]
theorem comm_basis : ∀ i j : Fin 8, gm (1#8 <<< i.val) (1#8 <<< j.val) = gm (1#8 <<< j.val) (1#8 <<< i.val) := by decide +kernel
theorem assoc_basis : ∀ i j k : Fin 8, gm (gm (1#8 <<< i.val) (1#8 <<< j.val)) (1#8 <<< k.val) = gm (1#8 <<< i.val) (gm (1#8 <<< j.val) (1#8 <<< k.val)) := by decide +kernel
theorem gm_comm (a b : BitVec 8) : gm a b = gm b a := by
  refine basis_ind (fun a => gm a b = gm b a) ?_ ?_ ?_ a
  · rw [gm_zero_left, gm_zero_right]
  · intro x y hx hy
    rw [gm_xor_left, gm_xor_right, hx, hy]
  · intro i
    refine basis_ind (fun b => gm (1#8 <<< i.val) b = gm b (1#8 <<< i.val)) ?_ ?_ ?_ b
    · rw [gm_zero_left, gm_zero_right]
    · intro x y hx hy
      rw [gm_xor_left, gm_xor_right, hx, hy]
    · exact fun j => comm_basis i j
theorem gm_assoc (a b c : BitVec 8) : gm (gm a b) c = gm a (gm b c) := by
  refine basis_ind (fun a => gm (gm a b) c = gm a (gm b c)) ?_ ?_ ?_ a
  · simp only [gm_zero_left]
  · intro x y hx hy
    simp only [gm_xor_left, hx, hy]
  · intro i
    refine basis_ind (fun b => gm (gm (1#8 <<< i.val) b) c = gm (1#8 <<< i.val) (gm b c)) ?_ ?_ ?_ b
    · simp only [gm_zero_left, gm_zero_right]
    · intro x y hx hy
      simp only [gm_xor_left, gm_xor_right, hx, hy]
    · intro j
      refine basis_ind (fun c => gm (gm (1#8 <<< i.val) (1#8 <<< j.val)) c = gm (1#8 <<< i.val) (gm (1#8 <<< j.val) c)) ?_ ?_ ?_ c
      · simp only [gm_zero_right]
      · intro x y hx hy
        simp only [gm_xor_right, hx, hy]
      · exact fun k => assoc_basis i j k
theorem gm_one (a : BitVec 8) : gm a 1#8 = a := by
  have : ∀ a : Fin 256, gm (BitVec.ofFin a) 1#8 = BitVec.ofFin a := by decide +kernel
  exact this a.toFin

/-! the laws at G -/
theorem add_comm (a b : G) : a + b = b + a := G.eq_of (BitVec.xor_comm _ _)
theorem add_assoc (a b c : G) : a + b + c = a + (b + c) := G.eq_of (BitVec.xor_assoc _ _ _)
theorem add_left_comm (a b c : G) : a + (b + c) = b + (a + c) := by rw [← add_assoc, add_comm a b, add_assoc]
theorem add_zero (a : G) : a + 0 = a := G.eq_of (by simp [add_v, zero_v])
theorem zero_add (a : G) : 0 + a = a := by rw [add_comm, add_zero]
theorem add_self (a : G) : a + a = 0 := G.eq_of (by simp [add_v, zero_v])
theorem add_add_self (a b : G) : a + (a + b) = b := by rw [← add_assoc, add_self, zero_add]
theorem add_eq_zero {a b : G} : a + b = 0 ↔ a = b := by
  constructor
  · intro h
    have := add_add_self a b
    rw [h, add_zero] at this
    exact this
  · rintro rfl
    exact add_self a
theorem add_right_inj {a b c : G} (h : a + b = a + c) : b = c := by
  have := congrArg (a + ·) h
  simpa only [add_add_self] using this
theorem mul_comm (a b : G) : a * b = b * a := G.eq_of (gm_comm _ _)
theorem mul_assoc (a b c : G) : a * b * c = a * (b * c) := G.eq_of (gm_assoc _ _ _)
theorem mul_left_comm (a b c : G) : a * (b * c) = b * (a * c) := by rw [← mul_assoc, mul_comm a b, mul_assoc]
theorem mul_add (a b c : G) : a * (b + c) = a * b + a * c := G.eq_of (gm_xor_right _ _ _)
theorem add_mul (a b c : G) : (a + b) * c = a * c + b * c := G.eq_of (gm_xor_left _ _ _)
theorem mul_zero (a : G) : a * 0 = 0 := G.eq_of (gm_zero_right _)
theorem zero_mul (a : G) : 0 * a = 0 := G.eq_of (gm_zero_left _)
theorem mul_one (a : G) : a * 1 = a := G.eq_of (gm_one _)
theorem one_mul (a : G) : 1 * a = a := by rw [mul_comm, mul_one]
theorem one_ne_zero : (1 : G) ≠ 0 := by decide
/-- by squaring, as the program does -/
def p254 (a : G) : G :=
  let b := a * a
  let c := b * b
  let d := c * c
  let e := d * d
  let f := e * e
  let g := f * f
  let h := g * g
  b * c * d * e * f * g * h
instance : Std.Commutative (α := G) (· + ·) := ⟨add_comm⟩
instance : Std.Associative (α := G) (· + ·) := ⟨add_assoc⟩
instance : Std.Commutative (α := G) (· * ·) := ⟨mul_comm⟩
instance : Std.Associative (α := G) (· * ·) := ⟨mul_assoc⟩
theorem inv_all : ∀ a : Fin 256, a.val ≠ 0 → (⟨BitVec.ofFin a⟩ : G) * p254 ⟨BitVec.ofFin a⟩ = 1 := by decide +kernel
def inv (a : G) : G := p254 a
theorem mul_inv {a : G} (h : a ≠ 0) : a * inv a = 1 := by
  have := inv_all a.v.toFin (by
    intro e
    apply h
    apply G.eq_of
    exact BitVec.eq_of_toNat_eq e)
  exact this
theorem inv_zero : inv 0 = 0 := by decide +kernel
theorem inv_mul {a : G} (h : a ≠ 0) : inv a * a = 1 := by rw [mul_comm, mul_inv h]
theorem mul_eq_zero {a b : G} : a * b = 0 ↔ a = 0 ∨ b = 0 := by
  constructor
  · intro h
    by_cases ha : a = 0
    · exact .inl ha
    · right
      have := congrArg (inv a * ·) h
      simp only [← mul_assoc, inv_mul ha, one_mul, mul_zero] at this
      exact this
  · rintro (rfl | rfl)
    · exact zero_mul _
    · exact mul_zero _
theorem mul_ne_zero {a b : G} (ha : a ≠ 0) (hb : b ≠ 0) : a * b ≠ 0 := fun h => (mul_eq_zero.1 h).elim ha hb
theorem mul_left_inj {a b c : G} (ha : a ≠ 0) (h : a * b = a * c) : b = c := by
  have := congrArg (inv a * ·) h
  simpa only [← mul_assoc, inv_mul ha, one_mul] using this
theorem inv_unique {a b : G} (h : a * b = 1) : b = inv a := by
  have ha : a ≠ 0 := by
    rintro rfl
    rw [zero_mul] at h
    exact one_ne_zero h.symm
  exact mul_left_inj ha (h.trans (mul_inv ha).symm)
theorem inv_ne_zero {a : G} (h : a ≠ 0) : inv a ≠ 0 := by
  intro e
  have := mul_inv h
  rw [e, mul_zero] at this
  exact one_ne_zero this.symm

/-! bytes as numbers -/
def G.i (a : G) : Int := (a.v.toNat : Int)
def G.of (x : Int) : G := ⟨BitVec.ofInt 8 x⟩
theorem i_nonneg (a : G) : 0 ≤ a.i := by unfold G.i; omega
theorem i_lt (a : G) : a.i < 256 := by unfold G.i; have := a.v.isLt; omega
theorem i_le (a : G) : a.i ≤ 255 := by have := i_lt a; omega
theorem i_inj {a b : G} : a.i = b.i ↔ a = b := by
  constructor
  · intro h
    apply G.eq_of
    apply BitVec.eq_of_toNat_eq
    unfold G.i at h
    omega
  · rintro rfl
    rfl
theorem of_i (a : G) : G.of a.i = a := by
  apply G.eq_of
  simp [G.of, G.i]
theorem i_of {x : Int} (h0 : 0 ≤ x) (h1 : x < 256) : (G.of x).i = x := by
  simp only [G.of, G.i, BitVec.toNat_ofInt]
  omega
theorem i_zero : (0 : G).i = 0 := rfl
theorem i_one : (1 : G).i = 1 := rfl
theorem i_eq_zero {a : G} : a.i = 0 ↔ a = 0 := by rw [← i_zero, i_inj]
theorem xor_i (a b : G) : Go.bits .xor .u8 a.i b.i = (a + b).i := by
  unfold Go.bits G.i
  simp only [IntKind.wrap_u8]
  show ((BitVec.ofInt 8 (a.v.toNat : Int) ^^^ BitVec.ofInt 8 (b.v.toNat : Int)).toNat : Int) % 256 = ((a.v ^^^ b.v).toNat : Int)
  simp only [BitVec.ofInt_natCast, BitVec.ofNat_toNat, BitVec.setWidth_eq]
  have := (a.v ^^^ b.v).isLt
  omega
/-! coefficients -/
def co (p : List G) (i : Nat) : G := p.getD i 0
theorem co_nil (i : Nat) : co [] i = 0 := rfl
theorem co_zero (a : G) (p : List G) : co (a :: p) 0 = a := rfl
theorem co_succ (a : G) (p : List G) (i : Nat) : co (a :: p) (i + 1) = co p i := rfl
theorem co_lt {p : List G} {i : Nat} (h : i < p.length) : co p i = p[i] := by
  simp [co, List.getD_eq_getElem?_getD, List.getElem?_eq_getElem h]
theorem co_ge {p : List G} {i : Nat} (h : p.length ≤ i) : co p i = 0 := by
  simp [co, List.getD_eq_getElem?_getD, List.getElem?_eq_none h]
theorem co_take (p : List G) (n i : Nat) : co (p.take n) i = if i < n then co p i else 0 := by
  simp only [co, List.getD_eq_getElem?_getD, List.getElem?_take]
  split <;> rfl
theorem co_drop (p : List G) (n i : Nat) : co (p.drop n) i = co p (n + i) := by
  simp only [co, List.getD_eq_getElem?_getD, List.getElem?_drop]
theorem co_append (p q : List G) (i : Nat) : co (p ++ q) i = if i < p.length then co p i else co q (i - p.length) := by
  simp only [co, List.getD_eq_getElem?_getD, List.getElem?_append]
  split <;> rfl
theorem co_set (p : List G) (n i : Nat) (a : G) (h : n < p.length) : co (p.set n a) i = if i = n then a else co p i := by
  simp only [co, List.getD_eq_getElem?_getD, List.getElem?_set]
  by_cases e : n = i
  · subst e
    simp [h]
  · simp [e, Ne.symm e]
theorem co_replicate (n i : Nat) : co (List.replicate n 0) i = 0 := by
  simp only [co, List.getD_eq_getElem?_getD, List.getElem?_replicate]
  split <;> rfl
theorem ext_co {p q : List G} (hl : p.length = q.length) (h : ∀ i, i < p.length → co p i = co q i) : p = q := by
  apply List.ext_getElem hl
  intro i h1 h2
  have := h i h1
  rwa [co_lt h1, co_lt h2] at this
def tab (n : Nat) (f : Nat → G) : List G := (List.range n).map f
theorem tab_length (n : Nat) (f : Nat → G) : (tab n f).length = n := by simp [tab]
theorem co_tab (n : Nat) (f : Nat → G) (i : Nat) : co (tab n f) i = if i < n then f i else 0 := by
  by_cases h : i < n
  · rw [if_pos h, co_lt (by rw [tab_length]; exact h)]
    simp [tab]
  · rw [if_neg h, co_ge (by rw [tab_length]; omega)]
theorem tab_succ (n : Nat) (f : Nat → G) : tab (n + 1) f = tab n f ++ [f n] := by simp [tab, List.range_succ]
theorem tab_zero (f : Nat → G) : tab 0 f = [] := rfl
theorem tab_co (p : List G) : tab p.length (co p) = p := by
  apply ext_co (tab_length _ _)
  intro i hi
  rw [tab_length] at hi
  rw [co_tab, if_pos hi]

/-! without noughts at the end -/
def trim : List G → List G
  | [] => []
  | a :: p => if trim p = [] ∧ a = 0 then [] else a :: trim p
theorem co_trim (p : List G) : ∀ i, co (trim p) i = co p i := by
  induction p with
  | nil => intro i; rfl
  | cons a p ih =>
    intro i
    unfold trim
    by_cases h : trim p = [] ∧ a = 0
    · rw [if_pos h]
      obtain ⟨h1, rfl⟩ := h
      cases i with
      | zero => rfl
      | succ i => rw [co_succ, ← ih, h1, co_nil, co_nil]
    · rw [if_neg h]
      cases i with
      | zero => rfl
      | succ i => rw [co_succ, co_succ, ih]
theorem trim_eq_nil {p : List G} (h : ∀ i, co p i = 0) : trim p = [] := by
  induction p with
  | nil => rfl
  | cons a p ih =>
    unfold trim
    rw [if_pos ⟨ih (fun i => h (i + 1)), h 0⟩]
theorem of_trim_nil {p : List G} (h : trim p = []) (i : Nat) : co p i = 0 := by
  rw [← co_trim, h, co_nil]
theorem trim_congr {p q : List G} (h : ∀ i, co p i = co q i) : trim p = trim q := by
  induction p generalizing q with
  | nil => rw [trim_eq_nil (p := q) (fun i => (h i).symm.trans (co_nil i))]; rfl
  | cons a p ih =>
    cases q with
    | nil => rw [trim_eq_nil (p := a :: p) (fun i => (h i).trans (co_nil i))]; rfl
    | cons b q =>
      have h0 : a = b := h 0
      have h1 : trim p = trim q := ih (fun i => h (i + 1))
      unfold trim
      rw [h0, h1]
theorem trim_trim (p : List G) : trim (trim p) = trim p := trim_congr (co_trim p)
theorem trim_length_le (p : List G) : (trim p).length ≤ p.length := by
  induction p with
  | nil => exact Nat.le_refl _
  | cons a p ih =>
    unfold trim
    split
    · exact Nat.zero_le _
    · simp only [List.length_cons]; omega
/-- The last coefficient of a trimmed row isn't 0. -/
theorem trim_last {p : List G} {n : Nat} (h : (trim p).length = n + 1) : co p n ≠ 0 := by
  induction p generalizing n with
  | nil => cases h
  | cons a p ih =>
    unfold trim at h
    by_cases hc : trim p = [] ∧ a = 0
    · rw [if_pos hc] at h
      cases h
    · rw [if_neg hc, List.length_cons] at h
      cases n with
      | zero =>
        have h1 : trim p = [] := List.eq_nil_of_length_eq_zero (by omega)
        intro e
        exact hc ⟨h1, e⟩
      | succ n => exact ih (by omega)
theorem trim_ge {p : List G} {i : Nat} (h : (trim p).length ≤ i) : co p i = 0 := by rw [← co_trim, co_ge h]
theorem trim_length_of {p : List G} {m : Nat} (h0 : ∀ j, m ≤ j → co p j = 0) (h1 : m = 0 ∨ co p (m - 1) ≠ 0) : (trim p).length = m := by
  rcases Nat.lt_trichotomy (trim p).length m with h | h | h
  · exfalso
    rcases h1 with h1 | h1
    · omega
    · exact h1 (trim_ge (by omega))
  · exact h
  · exfalso
    obtain ⟨n, hn⟩ : ∃ n, (trim p).length = n + 1 := ⟨(trim p).length - 1, by omega⟩
    exact trim_last hn (h0 n (by omega))
theorem trim_eq_take (p : List G) : trim p = p.take (trim p).length := by
  have hle := trim_length_le p
  apply ext_co
  · rw [List.length_take]; omega
  · intro i hi
    rw [co_trim, co_take, if_pos hi]
theorem trim_len_le_of {p : List G} {m : Nat} (h : ∀ j, m ≤ j → co p j = 0) : (trim p).length ≤ m := by
  rcases Nat.lt_or_ge m (trim p).length with hlt | hge
  · exfalso
    obtain ⟨n, hn⟩ : ∃ n, (trim p).length = n + 1 := ⟨(trim p).length - 1, by omega⟩
    exact trim_last hn (h n (by omega))
  · exact hge
theorem trim_id {p : List G} (h : ∀ n, p.length = n + 1 → co p n ≠ 0) : trim p = p := by
  have hl : (trim p).length = p.length := by
    apply trim_length_of
    · intro j hj
      exact co_ge hj
    · cases hp : p.length with
      | zero => exact .inl rfl
      | succ n => exact .inr (h n hp)
  rw [trim_eq_take, hl, List.take_length]

/-! values -/
def ev : List G → G → G
  | [], _ => 0
  | a :: p, x => a + x * ev p x
theorem ev_nil (x : G) : ev [] x = 0 := rfl
theorem ev_cons (a : G) (p : List G) (x : G) : ev (a :: p) x = a + x * ev p x := rfl
theorem ev_trim (p : List G) (x : G) : ev (trim p) x = ev p x := by
  induction p with
  | nil => rfl
  | cons a p ih =>
    unfold trim
    by_cases h : trim p = [] ∧ a = 0
    · rw [if_pos h]
      obtain ⟨h1, rfl⟩ := h
      rw [ev_cons, ← ih, h1, ev_nil, mul_zero, add_zero]
    · rw [if_neg h, ev_cons, ev_cons, ih]
theorem ev_congr {p q : List G} (h : ∀ i, co p i = co q i) (x : G) : ev p x = ev q x := by
  rw [← ev_trim p, ← ev_trim q, trim_congr h]
theorem ev_zero {p : List G} (h : ∀ i, co p i = 0) (x : G) : ev p x = 0 := by
  rw [ev_congr (q := []) (fun i => (h i).trans (co_nil i).symm)]; rfl
theorem ev_at_zero (p : List G) : ev p 0 = co p 0 := by
  cases p with
  | nil => rfl
  | cons a p => rw [ev_cons, zero_mul, add_zero]; rfl
theorem ev_append (p q : List G) (a x : G) : ev (p ++ [a]) x = ev (p ++ [0]) x + ev (List.replicate p.length 0 ++ [a]) x := by
  induction p with
  | nil =>
    show ev [a] x = ev [0] x + ev [a] x
    simp only [ev_cons, ev_nil, mul_zero, add_zero, zero_add]
  | cons b p ih =>
    simp only [List.cons_append, ev_cons, List.length_cons, List.replicate_succ]
    rw [ih, mul_add, zero_add, ← add_assoc]

/-! sums -/
def zadd : List G → List G → List G
  | [], q => q
  | p, [] => p
  | a :: p, b :: q => (a + b) :: zadd p q
theorem co_zadd (p q : List G) (i : Nat) : co (zadd p q) i = co p i + co q i := by
  induction p generalizing q i with
  | nil => rw [zadd, co_nil, zero_add]
  | cons a p ih =>
    cases q with
    | nil => rw [zadd, co_nil, add_zero]; intro h; cases h
    | cons b q =>
      cases i with
      | zero => rfl
      | succ i => rw [zadd, co_succ, co_succ, co_succ, ih]
theorem ev_zadd (p q : List G) (x : G) : ev (zadd p q) x = ev p x + ev q x := by
  induction p generalizing q with
  | nil => rw [zadd, ev_nil, zero_add]
  | cons a p ih =>
    cases q with
    | nil => rw [zadd, ev_nil, add_zero]; intro h; cases h
    | cons b q =>
      rw [zadd, ev_cons, ev_cons, ev_cons, ih, mul_add]
      ac_rfl
theorem zadd_length (p q : List G) : (zadd p q).length = max p.length q.length := by
  induction p generalizing q with
  | nil => rw [zadd, List.length_nil]; omega
  | cons a p ih =>
    cases q with
    | nil => rw [zadd, List.length_nil]; omega; intro h; cases h
    | cons b q => rw [zadd, List.length_cons, List.length_cons, List.length_cons, ih]; omega
theorem zadd_tab (p q : List G) : zadd p q = tab (max p.length q.length) (fun i => co p i + co q i) := by
  apply ext_co
  · rw [zadd_length, tab_length]
  · intro i hi
    rw [zadd_length] at hi
    rw [co_zadd, co_tab, if_pos hi]
def padd (p q : List G) : List G := trim (zadd p q)
theorem co_padd (p q : List G) (i : Nat) : co (padd p q) i = co p i + co q i := by rw [padd, co_trim, co_zadd]
theorem ev_padd (p q : List G) (x : G) : ev (padd p q) x = ev p x + ev q x := by rw [padd, ev_trim, ev_zadd]
theorem padd_length_le (p q : List G) : (padd p q).length ≤ max p.length q.length := by
  have := trim_length_le (zadd p q)
  rw [zadd_length] at this
  exact this
theorem trim_padd (p q : List G) : trim (padd p q) = padd p q := trim_trim _

/-! scaled, and shifted -/
def scale (c : G) (p : List G) : List G := p.map (c * ·)
theorem co_scale (c : G) (p : List G) (i : Nat) : co (scale c p) i = c * co p i := by
  induction p generalizing i with
  | nil => rw [scale, List.map_nil, co_nil, mul_zero]
  | cons a p ih =>
    cases i with
    | zero => rfl
    | succ i => exact ih i
theorem ev_scale (c : G) (p : List G) (x : G) : ev (scale c p) x = c * ev p x := by
  induction p with
  | nil => rw [scale, List.map_nil, ev_nil, mul_zero]
  | cons a p ih =>
    show c * a + x * ev (scale c p) x = _
    rw [ih, ev_cons, mul_add, mul_left_comm]
theorem scale_length (c : G) (p : List G) : (scale c p).length = p.length := List.length_map _

/-! sums of rows of values -/
def sum (f : Nat → G) : Nat → G
  | 0 => 0
  | n + 1 => sum f n + f n
theorem sum_zero (f : Nat → G) : sum f 0 = 0 := rfl
theorem sum_succ (f : Nat → G) (n : Nat) : sum f (n + 1) = sum f n + f n := rfl
theorem sum_congr {f g : Nat → G} {n : Nat} (h : ∀ i, i < n → f i = g i) : sum f n = sum g n := by
  induction n with
  | zero => rfl
  | succ n ih => rw [sum_succ, sum_succ, ih (fun i hi => h i (by omega)), h n (by omega)]
theorem sum_add (f g : Nat → G) (n : Nat) : sum (fun i => f i + g i) n = sum f n + sum g n := by
  induction n with
  | zero => rw [sum_zero, sum_zero, sum_zero, add_zero]
  | succ n ih =>
    simp only [sum_succ, ih]
    ac_rfl
theorem sum_mul (c : G) (f : Nat → G) (n : Nat) : sum (fun i => c * f i) n = c * sum f n := by
  induction n with
  | zero => rw [sum_zero, sum_zero, mul_zero]
  | succ n ih => rw [sum_succ, sum_succ, ih, mul_add]
theorem sum_eq_zero {f : Nat → G} {n : Nat} (h : ∀ i, i < n → f i = 0) : sum f n = 0 := by
  induction n with
  | zero => rfl
  | succ n ih => rw [sum_succ, ih (fun i hi => h i (by omega)), h n (by omega), add_zero]
theorem sum_front (f : Nat → G) (n : Nat) : sum f (n + 1) = f 0 + sum (fun i => f (i + 1)) n := by
  induction n with
  | zero => rw [sum_succ, sum_zero, sum_zero, add_comm]
  | succ n ih => rw [sum_succ, ih, sum_succ, add_assoc]
theorem sum_extend {f : Nat → G} {n m : Nat} (hnm : n ≤ m) (h : ∀ i, n ≤ i → i < m → f i = 0) : sum f m = sum f n := by
  induction m with
  | zero => rw [show n = 0 by omega]
  | succ m ih =>
    by_cases e : n = m + 1
    · rw [e]
    · rw [sum_succ, ih (by omega) (fun i h1 h2 => h i h1 (by omega)), h m (by omega) (by omega), add_zero]
theorem sum_single {f : Nat → G} {n k : Nat} (hk : k < n) (h : ∀ i, i < n → i ≠ k → f i = 0) : sum f n = f k := by
  induction n with
  | zero => omega
  | succ n ih =>
    rw [sum_succ]
    by_cases e : k = n
    · subst e
      rw [sum_eq_zero (fun i hi => h i (by omega) (by omega)), zero_add]
    · rw [ih (by omega) (fun i hi hne => h i (by omega) hne), h n (by omega) (by omega), add_zero]

/-! products -/
def rmul : List G → List G → List G
  | [], _ => []
  | a :: p, q => zadd (scale a q) (0 :: rmul p q)
theorem ev_rmul (p q : List G) (x : G) : ev (rmul p q) x = ev p x * ev q x := by
  induction p with
  | nil => rw [rmul, ev_nil, zero_mul]
  | cons a p ih => rw [rmul, ev_zadd, ev_scale, ev_cons, ih, ev_cons, add_mul, zero_add, mul_assoc]
theorem co_rmul (p q : List G) (m : Nat) : co (rmul p q) m = sum (fun j => co p j * co q (m - j)) (m + 1) := by
  induction p generalizing m with
  | nil =>
    rw [rmul, co_nil, sum_eq_zero]
    intro i _
    rw [co_nil, zero_mul]
  | cons a p ih =>
    rw [rmul, co_zadd, co_scale, sum_front]
    congr 1
    cases m with
    | zero => rfl
    | succ m =>
      rw [co_succ, ih]
      apply sum_congr
      intro i hi
      rw [co_succ, show m + 1 - (i + 1) = m - i by omega]
theorem rmul_length_le (p q : List G) : (rmul p q).length ≤ p.length + q.length := by
  induction p with
  | nil => simp [rmul]
  | cons a p ih =>
    rw [rmul, zadd_length, scale_length]
    simp only [List.length_cons]
    omega
def pmul (p q : List G) : List G := trim (rmul p q)
theorem ev_pmul (p q : List G) (x : G) : ev (pmul p q) x = ev p x * ev q x := by rw [pmul, ev_trim, ev_rmul]
theorem co_pmul (p q : List G) (m : Nat) : co (pmul p q) m = sum (fun j => co p j * co q (m - j)) (m + 1) := by rw [pmul, co_trim, co_rmul]
theorem trim_pmul (p q : List G) : trim (pmul p q) = pmul p q := trim_trim _
/-- Behind all coefficients there are none. -/
theorem co_pmul_ge {p q : List G} {m a b : Nat} (ha : ∀ i, a ≤ i → co p i = 0) (hb : ∀ i, b ≤ i → co q i = 0) (hm : a + b ≤ m + 1) : co (pmul p q) m = 0 := by
  rw [co_pmul]
  apply sum_eq_zero
  intro i hi
  by_cases h : a ≤ i
  · rw [ha i h, zero_mul]
  · rw [hb (m - i) (by omega), mul_zero]
/-- The last coefficient of a product. -/
theorem co_pmul_top {p q : List G} {a b : Nat} (ha : ∀ i, a < i → co p i = 0) (hb : ∀ i, b < i → co q i = 0) : co (pmul p q) (a + b) = co p a * co q b := by
  rw [co_pmul, sum_single (k := a) (by omega)]
  · rw [show a + b - a = b by omega]
  · intro i hi hne
    rcases Nat.lt_or_ge a i with h | h
    · rw [ha i h, zero_mul]
    · rw [hb (a + b - i) (by omega), mul_zero]
theorem pmul_nil_left (q : List G) : pmul [] q = [] := rfl
theorem pmul_length {p q : List G} {a b : Nat} (hp : (trim p).length = a + 1) (hq : (trim q).length = b + 1) : (pmul p q).length = a + b + 1 := by
  have h1 : ∀ i, a < i → co p i = 0 := fun i hi => trim_ge (by omega)
  have h2 : ∀ i, b < i → co q i = 0 := fun i hi => trim_ge (by omega)
  have := trim_length_of (p := pmul p q) (m := a + b + 1) (fun j hj => co_pmul_ge (a := a + 1) (b := b + 1) (fun i hi => h1 i (by omega)) (fun i hi => h2 i (by omega)) (by omega)) (.inr (by
    rw [show a + b + 1 - 1 = a + b by omega, co_pmul_top h1 h2]
    exact mul_ne_zero (trim_last hp) (trim_last hq)))
  rwa [trim_pmul] at this
theorem pmul_zero {p q : List G} (h : (∀ i, co p i = 0) ∨ ∀ i, co q i = 0) : pmul p q = [] := by
  rw [← trim_pmul]
  apply trim_eq_nil
  intro m
  rw [co_pmul]
  apply sum_eq_zero
  intro i _
  rcases h with h | h
  · rw [h, zero_mul]
  · rw [h, mul_zero]

/-! roots -/
def quo (a : G) : List G → List G
  | [] => []
  | c :: p => if p = [] then [] else ev p a :: quo a p
theorem ev_quo (a x : G) (p : List G) : ev p x + ev p a = (x + a) * ev (quo a p) x := by
  induction p with
  | nil => rw [ev_nil, ev_nil, add_self, quo, ev_nil, mul_zero]
  | cons c p ih =>
    unfold quo
    by_cases h : p = []
    · subst h
      rw [if_pos rfl, ev_cons, ev_nil, ev_cons, ev_nil, mul_zero, mul_zero, add_self, mul_zero]
    · rw [if_neg h, ev_cons, ev_cons, ev_cons, mul_add, mul_left_comm, ← ih]
      have : c + x * ev p x + (c + a * ev p a) = x * ev p x + a * ev p a := by
        rw [add_assoc, add_left_comm (x * ev p x) c, add_add_self]
      rw [this, mul_add, add_mul]
      have e2 : x * ev p a + a * ev p a + (x * ev p x + x * ev p a) = x * ev p x + a * ev p a + (x * ev p a + x * ev p a) := by ac_rfl
      rw [e2, add_self, add_zero]
theorem quo_length (a : G) (p : List G) : (quo a p).length = p.length - 1 := by
  induction p with
  | nil => rfl
  | cons c p ih =>
    unfold quo
    by_cases h : p = []
    · subst h
      rfl
    · rw [if_neg h, List.length_cons, ih, List.length_cons]
      have : 0 < p.length := List.length_pos_iff.2 h
      omega
theorem of_quo {a : G} {p : List G} (h : ∀ i, co (quo a p) i = 0) (h0 : ev p a = 0) (i : Nat) : co p i = 0 := by
  induction p generalizing i with
  | nil => rfl
  | cons c p ih =>
    by_cases hp : p = []
    · subst hp
      rw [ev_cons, ev_nil, mul_zero, add_zero] at h0
      cases i with
      | zero => exact h0
      | succ i => rfl
    · unfold quo at h
      rw [if_neg hp] at h
      have h1 : ev p a = 0 := h 0
      have h2 : ∀ i, co (quo a p) i = 0 := fun i => h (i + 1)
      rw [ev_cons, h1, mul_zero, add_zero] at h0
      cases i with
      | zero => exact h0
      | succ i => exact ih h2 h1 i
/-- A polynomial with as many roots as it has coefficients is 0. -/
theorem roots_zero : ∀ (xs : List G) (p : List G), xs.Nodup → p.length ≤ xs.length → (∀ x ∈ xs, ev p x = 0) → ∀ i, co p i = 0 := by
  intro xs
  induction xs with
  | nil =>
    intro p _ hl _ i
    rw [List.eq_nil_of_length_eq_zero (show p.length = 0 by simpa using hl), co_nil]
  | cons a xs ih =>
    intro p hd hl hr
    have ha : ev p a = 0 := hr a List.mem_cons_self
    apply of_quo (a := a) _ ha
    apply ih _ (List.nodup_cons.1 hd).2
    · rw [quo_length]
      simp only [List.length_cons] at hl
      omega
    · intro x hx
      have h1 := ev_quo a x p
      rw [hr x (List.mem_cons_of_mem _ hx), ha, add_zero] at h1
      have hne : x + a ≠ 0 := by
        intro e
        have := add_eq_zero.1 e
        subst this
        exact (List.nodup_cons.1 hd).1 hx
      exact (mul_eq_zero.1 h1.symm).resolve_left hne
/-- Two polynomials that are the same at as many places as they have coefficients are the same. -/
theorem same_of_values {xs p q : List G} (hd : xs.Nodup) (hp : p.length ≤ xs.length) (hq : q.length ≤ xs.length) (h : ∀ x ∈ xs, ev p x = ev q x) (i : Nat) : co p i = co q i := by
  have := roots_zero xs (zadd p q) hd (by rw [zadd_length]; omega) (fun x hx => by rw [ev_zadd, h x hx, add_self]) i
  rw [co_zadd] at this
  exact add_eq_zero.1 this
end Go.Proofs.YtlioalaehkohlaaDoor.Al

namespace Go.Proofs.YtlioalaehkohlaaDoor.Al
open Go Go.RowKit Go.Proofs.YtlioalaehkohlaaDoor.Vm
set_option linter.unusedVariables false
set_option linter.unusedSimpArgs false
set_option linter.unusedSectionVars false
/-! what a function answers, once its fuel is enough -/
def Es {α : Type} (F : Nat → Nat → Nat → Option α) (a : α) : Prop := ∃ N, ∀ n m k, N ≤ n → N ≤ m → N ≤ k → F n m k = some a
section
variable {α β : Type} {F H A B : Nat → Nat → Nat → Option α} {a a' : α} {b : β}
theorem Es.now (a : α) : Es (fun _ _ _ => some a) a := ⟨0, fun _ _ _ _ _ _ => rfl⟩
theorem Es.step (h : ∀ n m k, F n m (k + 1) = H n m k) (hG : Es H a) : Es F a := by
  obtain ⟨N, hN⟩ := hG
  refine ⟨N + 1, fun n m k h1 h2 h3 => ?_⟩
  obtain ⟨j, rfl⟩ : ∃ j, k = j + 1 := ⟨k - 1, by omega⟩
  rw [h]
  exact hN _ _ _ (by omega) (by omega) (by omega)
theorem Es.congr (h : ∀ n m k, F n m k = H n m k) (hG : Es H a) : Es F a := by
  obtain ⟨N, hN⟩ := hG
  exact ⟨N, fun n m k h1 h2 h3 => (h n m k).trans (hN n m k h1 h2 h3)⟩
theorem Es.pos {c : Prop} [Decidable c] (h : c) (hA : Es A a) : Es (fun n m k => if c then A n m k else B n m k) a := by
  simp only [if_pos h]; exact hA
theorem Es.neg {c : Prop} [Decidable c] (h : ¬ c) (hB : Es B a) : Es (fun n m k => if c then A n m k else B n m k) a := by
  simp only [if_neg h]; exact hB
theorem Es.bind {g : Nat → Nat → Nat → α → Option β} (h : Es F a) (hg : Es (fun n m k => g n m k a) b) : Es (fun n m k => (F n m k).bind (g n m k)) b := by
  obtain ⟨N, hN⟩ := h
  obtain ⟨M, hM⟩ := hg
  refine ⟨max N M, fun n m k h1 h2 h3 => ?_⟩
  show (F n m k).bind (g n m k) = some b
  rw [hN n m k (by omega) (by omega) (by omega), Option.bind_some]
  exact hM n m k (by omega) (by omega) (by omega)
theorem Es.inn (h : Es F a) : Es (fun n m _ => F n m m) a := by
  obtain ⟨N, hN⟩ := h
  exact ⟨N, fun n m k h1 h2 h3 => hN n m m h1 h2 h2⟩
theorem Es.top (h : Es F a) : Es (fun n _ _ => F n n n) a := by
  obtain ⟨N, hN⟩ := h
  exact ⟨N, fun n m k h1 h2 h3 => hN n n n h1 h1 h1⟩
theorem Es.of {f : Nat → Option α} (N : Nat) (h : ∀ n, N ≤ n → f n = some a) : Es (fun n _ _ => f n) a := ⟨N, fun n _ _ h1 _ _ => h n h1⟩
theorem Es.out {f : Nat → Option α} (h : Es (fun n _ _ => f n) a) : ∃ N, ∀ n, N ≤ n → f n = some a := by
  obtain ⟨N, hN⟩ := h
  exact ⟨N, fun n h1 => hN n n n h1 h1 h1⟩
theorem esc (h : Es F a) (e : a = a') : Es F a' := e ▸ h
end
/-! bytes -/
def bs (p : List G) : List Int := p.map G.i
theorem bs_length (p : List G) : (bs p).length = p.length := List.length_map _
theorem bs_nil : bs [] = [] := rfl
theorem bs_cons (a : G) (p : List G) : bs (a :: p) = a.i :: bs p := rfl
theorem bs_append (p q : List G) : bs (p ++ q) = bs p ++ bs q := List.map_append
theorem bs_take (p : List G) (n : Nat) : (bs p).take n = bs (p.take n) := List.map_take.symm
theorem bs_drop (p : List G) (n : Nat) : (bs p).drop n = bs (p.drop n) := List.map_drop.symm
theorem bs_set (p : List G) (n : Nat) (a : G) : (bs p).set n a.i = bs (p.set n a) := List.map_set.symm
theorem bs_replicate (n : Nat) : List.replicate n (0 : Int) = bs (List.replicate n 0) := by rw [bs, List.map_replicate]; rfl
theorem bs_inj {p q : List G} : bs p = bs q ↔ p = q := by
  constructor
  · intro h
    exact List.map_inj_right (fun a b => i_inj.1) |>.1 h
  · rintro rfl; rfl
theorem rd_bs (p : List G) (n : Nat) : List.getD (bs p) (Int.toNat (n : Int)) 0 = (co p n).i := by
  simp only [bs, Int.toNat_natCast, co, List.getD_eq_getElem?_getD, List.getElem?_map]
  cases p[n]? <;> rfl
theorem rd_bsN (p : List G) (n : Nat) : List.getD (bs p) n 0 = (co p n).i := by
  simp only [bs, co, List.getD_eq_getElem?_getD, List.getElem?_map]
  cases p[n]? <;> rfl
theorem of_bytes : ∀ l : List Int, By l → ∃ p, l = bs p := by
  intro l
  induction l with
  | nil => intro _; exact ⟨[], rfl⟩
  | cons a l ih =>
    intro h
    obtain ⟨p, rfl⟩ := ih h.tail
    have ha := h.head
    exact ⟨G.of a :: p, by rw [bs_cons, i_of ha.1 ha.2]⟩
theorem by_bs (p : List G) : By (bs p) := fun x hx => by
  obtain ⟨g, _, rfl⟩ := List.mem_map.1 hx
  exact ⟨i_nonneg g, i_lt g⟩
theorem drop_co {p : List G} {n : Nat} (h : n < p.length) : p.drop n = co p n :: p.drop (n + 1) := by rw [List.drop_eq_getElem_cons h, co_lt h]
theorem s_nat {n : Nat} (h : n < 4611686018427387904) : wr .i64 ((n : Int) + 1) = ((n + 1 : Nat) : Int) := by
  rw [wr64 (by omega) (by omega)]; omega
theorem p_nat (n : Nat) (h : n < 4611686018427387904) : wr .i64 (((n + 1 : Nat) : Int) - 1) = (n : Int) := by
  rw [wr64 (by omega) (by omega)]; omega
theorem xor8 (a b : G) : bxor .u8 a.i b.i = (a + b).i := by
  show wr .u8 ((BitVec.ofInt 8 (a.v.toNat : Int) ^^^ BitVec.ofInt 8 (b.v.toNat : Int)).toNat : Int) = ((a.v ^^^ b.v).toNat : Int)
  simp only [BitVec.ofInt_natCast, BitVec.ofNat_toNat, BitVec.setWidth_eq]
  have := (a.v ^^^ b.v).isLt
  rw [wru8]
  omega
/-! products -/
def tm (a : G) : G := ⟨xt a.v⟩
theorem twice_all : ∀ a : Fin 256, (if ((band IntKind.u8 (a.val : Int) (128 : Int)) != (0 : Int)) = true then (some ((bxor IntKind.u8 (shlV IntKind.u8 (a.val : Int) (1 : Int)) (29 : Int)), ())) else (some ((shlV IntKind.u8 (a.val : Int) (1 : Int)), ()))) = some (((xt (BitVec.ofFin a)).toNat : Int), ()) := by decide +kernel
theorem twice_i (n : Nat) (a : G) : gf_twice.f n (a.i, ()) = some ((tm a).i, ()) := (gf_twice.eq n a.i).trans (twice_all a.v.toFin)
theorem and_all : ∀ a : Fin 256, band .u8 (a.val : Int) 1 = (a.val : Int) % 2 := by decide +kernel
theorem and8 {b : Nat} (h : b < 256) : band .u8 (b : Int) 1 = (b : Int) % 2 := and_all ⟨b, h⟩
theorem shr8_one {b : Nat} : shrV .u8 (b : Int) 1 = ((b / 2 : Nat) : Int) := by
  unfold shrV
  show Int.fdiv _ (2 ^ 1) = _
  rw [Int.fdiv_eq_ediv_of_nonneg _ (by decide)]
  omega
def gmN : Nat → G → Nat → G
  | 0, _, _ => 0
  | n + 1, a, b => (if b % 2 = 1 then a else 0) + gmN n (tm a) (b / 2)
theorem gmN_zero (n : Nat) (a : G) : gmN n a 0 = 0 := by
  induction n generalizing a with
  | zero => rfl
  | succ n ih => rw [gmN, if_neg (by decide), Nat.zero_div, ih, add_zero]
theorem bit_cb (b : BitVec 8) (i : Nat) (a : G) : (if b.toNat / 2 ^ i % 2 = 1 then a else 0) = (⟨cb (b.getLsbD i) a.v⟩ : G) := by
  have h : b.getLsbD i = decide (b.toNat / 2 ^ i % 2 = 1) := by
    rw [BitVec.getLsbD, Nat.testBit_eq_decide_div_mod_eq]
  rw [h]
  by_cases e : b.toNat / 2 ^ i % 2 = 1
  · rw [if_pos e, decide_eq_true e]; rfl
  · rw [if_neg e, decide_eq_false e]; rfl
theorem mul_gmN (a b : G) : a * b = gmN 8 a b.v.toNat := by
  simp only [gmN, Nat.div_div_eq_div_mul]
  have h0 := bit_cb b.v 0 a
  simp only [Nat.pow_zero, Nat.div_one] at h0
  rw [h0, bit_cb b.v 1, bit_cb b.v 2, bit_cb b.v 3, bit_cb b.v 4, bit_cb b.v 5, bit_cb b.v 6, bit_cb b.v 7, add_zero]
  rfl
theorem mul_l0 (j : Nat) : ∀ (a : G) (b : Nat) (o : G), b < 2 ^ j → b < 256 → Es (fun n m k => gf_Mul.l0 n m k (a.i, (b : Int), o.i, ())) ((o + gmN j a b).i, ()) := by
  induction j with
  | zero =>
    intro a b o h _
    obtain rfl : b = 0 := by omega
    refine Es.step (fun n m k => gf_Mul.l0_eq n m k _ _ _) (Es.neg (by decide) ?_)
    rw [gmN, add_zero]
    exact Es.now _
  | succ j ih =>
    intro a b o h h1
    refine Es.step (fun n m k => gf_Mul.l0_eq n m k _ _ _) ?_
    by_cases hb : b = 0
    · subst hb
      refine Es.neg (by decide) ?_
      rw [gmN_zero, add_zero]
      exact Es.now _
    · refine Es.pos (by simp; omega) ?_
      rw [and8 h1, shr8_one, xor8]
      by_cases ho : b % 2 = 1
      · refine Es.pos (by simp; omega) (Es.bind (Es.of 0 (fun n _ => twice_i n a)) ?_)
        refine esc (ih (tm a) (b / 2) (o + a) (by rw [Nat.pow_succ] at h; omega) (by omega)) ?_
        rw [gmN, if_pos ho, add_assoc]
      · refine Es.neg (by simp; omega) (Es.bind (Es.of 0 (fun n _ => twice_i n a)) ?_)
        refine esc (ih (tm a) (b / 2) o (by rw [Nat.pow_succ] at h; omega) (by omega)) ?_
        rw [gmN, if_neg ho, zero_add]
theorem mul_es (a b : G) : Es (fun n _ _ => gf_Mul.f n (a.i, b.i, ())) ((a * b).i, ()) := by
  have h := mul_l0 8 a b.v.toNat 0 b.v.isLt b.v.isLt
  rw [zero_add, ← mul_gmN] at h
  exact Es.congr (fun n _ _ => gf_Mul.eq n _ _) (Es.bind h.top (Es.now _))
theorem and64_all : ∀ a : Fin 256, band .i64 (a.val : Int) 1 = (a.val : Int) % 2 := by decide +kernel
theorem and64 {b : Nat} (h : b < 256) : band .i64 (b : Int) 1 = (b : Int) % 2 := and64_all ⟨b, h⟩
theorem shr64_one {b : Nat} : shrV .i64 (b : Int) 1 = ((b / 2 : Nat) : Int) := by
  unfold shrV
  show Int.fdiv _ (2 ^ 1) = _
  rw [Int.fdiv_eq_ediv_of_nonneg _ (by decide)]
  omega
theorem power_odd {a o : G} {x : Nat} {r : Int × Unit} (h0 : 0 < x) (h1 : x < 256) (ho : x % 2 = 1) (h : Es (fun n m k => gf_power.l0 n m k ((a * a).i, ((x / 2 : Nat) : Int), (o * a).i, ())) r) : Es (fun n m k => gf_power.l0 n m k (a.i, (x : Int), o.i, ())) r := by
  refine Es.step (fun n m k => gf_power.l0_eq n m k _ _ _) (Es.pos (by simp; omega) ?_)
  rw [and64 h1, shr64_one]
  exact Es.pos (by simp; omega) (Es.bind (mul_es _ _) (Es.bind (mul_es _ _) h))
theorem power_even {a o : G} {x : Nat} {r : Int × Unit} (h0 : 0 < x) (h1 : x < 256) (ho : x % 2 = 0) (h : Es (fun n m k => gf_power.l0 n m k ((a * a).i, ((x / 2 : Nat) : Int), o.i, ())) r) : Es (fun n m k => gf_power.l0 n m k (a.i, (x : Int), o.i, ())) r := by
  refine Es.step (fun n m k => gf_power.l0_eq n m k _ _ _) (Es.pos (by simp; omega) ?_)
  rw [and64 h1, shr64_one]
  exact Es.neg (by simp; omega) (Es.bind (mul_es _ _) h)
theorem power_end (a o : G) : Es (fun n m k => gf_power.l0 n m k (a.i, ((0 : Nat) : Int), o.i, ())) (o.i, ()) :=
  Es.step (fun n m k => gf_power.l0_eq n m k _ _ _) (Es.neg (by decide) (Es.now _))
theorem inv_es (a : G) : Es (fun n _ _ => gf_Inv.f n (a.i, ())) ((inv a).i, ()) := by
  refine Es.congr (fun n _ _ => gf_Inv.eq n _) (Es.bind (a := ((inv a).i, ())) ?_ (Es.now _))
  refine Es.congr (fun n _ _ => gf_power.eq n _ _) (Es.bind (a := ((inv a).i, ())) ?_ (Es.now _))
  have : Es (fun n m k => gf_power.l0 n m k (a.i, ((254 : Nat) : Int), (1 : G).i, ())) ((inv a).i, ()) := by
    refine power_even (by omega) (by omega) (by decide) ?_
    refine power_odd (by omega) (by omega) (by decide) ?_
    refine power_odd (by omega) (by omega) (by decide) ?_
    refine power_odd (by omega) (by omega) (by decide) ?_
    refine power_odd (by omega) (by omega) (by decide) ?_
    refine power_odd (by omega) (by omega) (by decide) ?_
    refine power_odd (by omega) (by omega) (by decide) ?_
    refine power_odd (by omega) (by omega) (by decide) ?_
    refine esc (power_end _ _) ?_
    rw [one_mul]
    rfl
  exact this.top
theorem div_es (a b : G) (hb : b ≠ 0) : Es (fun n _ _ => gf_Div.f n (a.i, b.i, ())) ((a * inv b).i, true, ()) :=
  Es.congr (fun n _ _ => gf_Div.eq n _ _) (Es.neg (by simp only [beq_iff_eq]; rw [i_eq_zero]; exact hb) (Es.bind (inv_es b) (Es.bind (mul_es _ _) (Es.now _))))
/-! Degree, Trim -/
theorem degree_l0 (p : List G) (hp : p.length < 1000000000000) : ∀ m, m ≤ p.length → (∀ j, m ≤ j → co p j = 0) → Es (fun n m' k => poly_Degree.l0 n m' k (bs p, (m : Int) - 1, ())) (((trim p).length : Int) - 1, ()) := by
  intro m
  induction m with
  | zero =>
    intro _ h
    refine Es.step (fun n m k => poly_Degree.l0_eq n m k _ _) (Es.neg (by simp) ?_)
    rw [trim_eq_nil (fun i => h i (Nat.zero_le _))]
    exact Es.now _
  | succ m ih =>
    intro hm h
    have e : (((m + 1 : Nat) : Int) - 1) = (m : Int) := by omega
    rw [e]
    refine Es.step (fun n m k => poly_Degree.l0_eq n m k _ _) (Es.pos (by simp) (Es.pos (by omega) (Es.pos (by rw [bs_length]; omega) ?_)))
    rw [rd_bs]
    by_cases hz : co p m = 0
    · refine Es.pos (by rw [hz]; rfl) ?_
      rw [wr64 (by omega) (by omega)]
      refine ih (by omega) (fun j hj => ?_)
      by_cases ej : j = m
      · rw [ej, hz]
      · exact h j (by omega)
    · refine Es.neg (by simp only [beq_iff_eq]; rw [i_eq_zero]; exact hz) ?_
      rw [trim_length_of h (.inr (by simpa using hz))]
      rw [e]
      exact Es.now _
theorem degree_es (p : List G) (hp : p.length < 1000000000000) : Es (fun n _ _ => poly_Degree.f n (bs p, ())) (((trim p).length : Int) - 1, ()) := by
  have h := degree_l0 p hp p.length (Nat.le_refl _) (fun j hj => co_ge hj)
  refine Es.congr (fun n _ _ => poly_Degree.eq n _) ?_
  rw [bs_length, wr64 (by omega) (by omega)]
  exact Es.bind h.top (Es.now _)
theorem trim_es (p : List G) (hp : p.length < 1000000000) : Es (fun n _ _ => poly_Trim.f n (bs p, ())) (bs (trim p), ()) := by
  have hl := trim_length_le p
  refine Es.congr (fun n _ _ => poly_Trim.eq n _) (Es.bind (degree_es p (by omega)) ?_)
  have e : wr .i64 (((trim p).length : Int) - 1 + 1) = ((trim p).length : Int) := by rw [wr64 (by omega) (by omega)]; omega
  dsimp only
  rw [e]
  refine Es.pos (by omega) (Es.pos (by rw [bs_length]; omega) ?_)
  rw [Int.toNat_natCast, List.drop_zero, bs_take, ← trim_eq_take]
  exact Es.bind (Es.of 0 (fun n _ => clone_is n (by rw [bs_length]; omega))) (Es.now _)
/-! Add -/
theorem add_l0 (p q : List G) (hp : p.length < 1000000000) (hq : q.length < 1000000000) (c : Nat) : ∀ (o : List G) (i : Nat), i + c = q.length → o.length = max p.length q.length →
    (∀ j, co o j = if j < i then co p j + co q j else co p j) → Es (fun n m k => poly_Add.l0 n m k (bs o, bs q, (q.length : Int), (i : Int), ())) (bs (zadd p q), ()) := by
  induction c with
  | zero =>
    intro o i hi ho h
    refine Es.step (fun n m k => poly_Add.l0_eq n m k _ _ _ _) (Es.neg (by simp; omega) ?_)
    rw [show o = zadd p q from ext_co (by rw [ho, zadd_length]) (fun j _ => by
      rw [h, co_zadd]
      split
      · rfl
      · rw [co_ge (p := q) (by omega), add_zero])]
    exact Es.now _
  | succ c ih =>
    intro o i hi ho h
    refine Es.step (fun n m k => poly_Add.l0_eq n m k _ _ _ _) (Es.pos (by simp; omega) (Es.pos (by omega) (Es.pos (by rw [bs_length]; omega) (Es.pos (by omega) (Es.pos (by rw [bs_length]; omega) (Es.pos (by omega) (Es.pos (by rw [bs_length]; omega) ?_)))))))
    rw [rd_bs, rd_bs, xor8, Int.toNat_natCast, bs_set, s_nat (by omega)]
    refine ih _ (i + 1) (by omega) (by rw [List.length_set]; exact ho) (fun j => ?_)
    rw [co_set _ _ _ _ (by omega)]
    by_cases e : j = i
    · subst e
      rw [if_pos rfl, if_pos (by omega), h, if_neg (by omega)]
    · rw [if_neg e, h]
      by_cases hlt : j < i
      · rw [if_pos hlt, if_pos (by omega)]
      · rw [if_neg hlt, if_neg (by omega)]
theorem add_es (p q : List G) (hp : p.length < 1000000000) (hq : q.length < 1000000000) : Es (fun n _ _ => poly_Add.f n (bs p, bs q, ())) (bs (padd p q), ()) := by
  refine Es.congr (fun n _ _ => poly_Add.eq n _ _) ?_
  rw [bs_length, bs_length, max_int]
  refine Es.pos (by omega) (Es.pos (lim_of (by omega)) ?_)
  rw [List.length_replicate, Int.toNat_natCast, bs_take, bs_replicate, bs_drop, ← bs_append]
  have hl := zadd_length p q
  refine Es.bind (Es.top (add_l0 p q hp hq q.length _ 0 (by omega) ?_ (fun j => ?_))) (Es.bind (trim_es _ (by omega)) (Es.now _))
  · simp only [List.length_append, List.length_take, List.length_drop, List.length_replicate]
    omega
  · rw [if_neg (by omega), co_append, co_take, co_drop, co_replicate, List.length_take]
    split
    · rw [if_pos (by omega)]
    · rw [co_ge (by omega)]
/-! Mul -/
def acc (p q : List G) (i m : Nat) : G := sum (fun a => if a ≤ m then co p a * co q (m - a) else 0) i
theorem acc_all (p q : List G) (m : Nat) : acc p q p.length m = co (pmul p q) m := by
  rw [co_pmul, acc]
  rcases Nat.le_total p.length (m + 1) with h | h
  · rw [sum_extend (n := p.length) (m := m + 1) h]
    · apply sum_congr
      intro a ha
      rw [if_pos (by omega)]
    · intro a h1 _
      rw [co_ge h1, zero_mul]
  · rw [sum_extend (n := m + 1) (m := p.length) h]
    · apply sum_congr
      intro a ha
      rw [if_pos (by omega)]
    · intro a h1 _
      rw [if_neg (by omega)]
theorem mul_inner (p q : List G) (i : Nat) (hi : i < p.length) (hp : p.length < 1000000000) (hq : q.length < 1000000000) : ∀ (d : Nat) (o : List G) (j : Nat), j + d = q.length → o.length = p.length + q.length →
    (∀ m, co o m = acc p q i m + if i ≤ m ∧ m < i + j then co p i * co q (m - i) else 0) →
    ∃ o' : List G, o'.length = p.length + q.length ∧ (∀ m, co o' m = acc p q (i + 1) m) ∧
      Es (fun n m k => poly_Mul.l2 n m k (bs q, bs o, (i : Int), (co p i).i, bs p, (p.length : Int), (i : Int), bs q, (q.length : Int), (j : Int), ())) (bs q, bs o', bs p, (p.length : Int), (i : Int), ()) := by
  intro d
  induction d with
  | zero =>
    intro o j hj ho h
    refine ⟨o, ho, fun m => ?_, Es.step (fun n m k => poly_Mul.l2_eq n m k _ _ _ _ _ _ _ _ _ _) (Es.neg (by simp; omega) (Es.now _))⟩
    rw [h, acc, acc, sum_succ]
    congr 1
    by_cases h1 : i ≤ m
    · rw [if_pos h1]
      by_cases h2 : m < i + j
      · rw [if_pos ⟨h1, h2⟩]
      · rw [if_neg (by omega), co_ge (p := q) (by omega), mul_zero]
    · rw [if_neg h1, if_neg (by omega)]
  | succ d ihd =>
    intro o j hj ho h
    have hw : wr .i64 ((i : Int) + (j : Int)) = ((i + j : Nat) : Int) := by rw [wr64 (by omega) (by omega)]; omega
    obtain ⟨o', k1, k2, k3⟩ := ihd (o.set (i + j) (co o (i + j) + co p i * co q j)) (j + 1) (by omega) (by rw [List.length_set]; exact ho) (fun m => by
      rw [co_set _ _ _ _ (by omega)]
      by_cases e : m = i + j
      · subst e
        rw [if_pos rfl, h (i + j), if_neg (show ¬ (i ≤ i + j ∧ i + j < i + j) by omega), add_zero, if_pos (show i ≤ i + j ∧ i + j < i + (j + 1) by omega), show i + j - i = j by omega]
      · rw [if_neg e, h]
        congr 1
        by_cases h1 : i ≤ m ∧ m < i + j
        · rw [if_pos h1, if_pos (by omega)]
        · rw [if_neg h1, if_neg (by omega)])
    refine ⟨o', k1, k2, Es.step (fun n m k => poly_Mul.l2_eq n m k _ _ _ _ _ _ _ _ _ _) (Es.pos (by simp; omega) (Es.pos (by omega) (Es.pos (by rw [bs_length]; omega) ?_)))⟩
    rw [hw, rd_bs, rd_bs]
    refine Es.pos (by omega) (Es.pos (by rw [bs_length]; omega) (Es.bind (mul_es _ _) ?_))
    dsimp only
    rw [xor8, Int.toNat_natCast, bs_set, s_nat (by omega)]
    exact Es.pos (by omega) (Es.pos (by rw [bs_length]; omega) k3)
theorem mul_loops (p q : List G) (hp : p.length < 1000000000) (hq : q.length < 1000000000) (c : Nat) : ∀ (o : List G) (i : Nat), i + c = p.length → o.length = p.length + q.length →
    (∀ m, co o m = acc p q i m) → ∃ o' : List G, o'.length = p.length + q.length ∧ trim o' = pmul p q ∧ Es (fun n m k => poly_Mul.l0 n m k (bs q, bs o, bs p, (p.length : Int), (i : Int), ())) (bs o', ()) := by
  induction c with
  | zero =>
    intro o i hi ho h
    obtain rfl : i = p.length := by omega
    exact ⟨o, ho, (trim_congr (fun m => (h m).trans (acc_all p q m))).trans (trim_pmul p q), Es.step (fun n m k => poly_Mul.l0_eq n m k _ _ _ _ _) (Es.neg (by simp) (Es.now _))⟩
  | succ c ih =>
    intro o i hi ho h
    obtain ⟨o1, h1, h2, h3⟩ := mul_inner p q i (by omega) hp hq q.length o 0 (by omega) ho (fun m => by rw [h, if_neg (by omega), add_zero])
    obtain ⟨o2, k1, k2, k3⟩ := ih o1 (i + 1) (by omega) h1 h2
    refine ⟨o2, k1, k2, Es.step (fun n m k => poly_Mul.l0_eq n m k _ _ _ _ _) (Es.pos (by simp; omega) (Es.pos (by omega) (Es.pos (by rw [bs_length]; omega) ?_)))⟩
    rw [rd_bs, bs_length]
    refine Es.bind h3.inn ?_
    dsimp only
    rw [s_nat (by omega)]
    exact k3
theorem pmul_es (p q : List G) (hp : p.length < 100000000) (hq : q.length < 100000000) : Es (fun n _ _ => poly_Mul.f n (bs p, bs q, ())) (bs (pmul p q), ()) := by
  refine Es.congr (fun n _ _ => poly_Mul.eq n _ _) ?_
  have hw : wr .i64 ((p.length : Int) + (q.length : Int)) = ((p.length + q.length : Nat) : Int) := by rw [wr64 (by omega) (by omega)]; omega
  rw [bs_length, bs_length, hw, Int.toNat_natCast, bs_replicate]
  obtain ⟨o', k1, k2, k3⟩ := mul_loops p q (by omega) (by omega) p.length (List.replicate (p.length + q.length) 0) 0 (by omega) (List.length_replicate) (fun m => by rw [co_replicate]; rfl)
  refine Es.pos (by omega) (Es.pos (lim_of (by omega)) (Es.bind k3.top (Es.bind (trim_es _ (by omega)) ?_)))
  rw [k2]
  exact Es.now _
/-! Eval -/
theorem eval_l0 (p : List G) (x : G) (hp : p.length < 1000000000) : ∀ m, m ≤ p.length → Es (fun n m' k => poly_Eval.l0 n m' k (bs p, x.i, (ev (p.drop m) x).i, (m : Int) - 1, ())) ((ev p x).i, ()) := by
  intro m
  induction m with
  | zero =>
    intro _
    exact Es.step (fun n m k => poly_Eval.l0_eq n m k _ _ _ _) (Es.neg (by simp) (Es.now _))
  | succ m ih =>
    intro hm
    have e : (((m + 1 : Nat) : Int) - 1) = (m : Int) := by omega
    rw [e]
    refine Es.step (fun n m k => poly_Eval.l0_eq n m k _ _ _ _) (Es.pos (by simp) (Es.pos (by omega) (Es.pos (by rw [bs_length]; omega) (Es.bind (mul_es _ _) ?_))))
    dsimp only
    rw [rd_bs, xor8, wr64 (by omega) (by omega)]
    have h := ih (by omega)
    rw [drop_co (show m < p.length by omega), ev_cons, add_comm, mul_comm] at h
    exact h
theorem eval_es (p : List G) (x : G) (hp : p.length < 1000000000) : Es (fun n _ _ => poly_Eval.f n (bs p, x.i, ())) ((ev p x).i, ()) := by
  have h := eval_l0 p x hp p.length (Nat.le_refl _)
  rw [List.drop_length] at h
  refine Es.congr (fun n _ _ => poly_Eval.eq n _ _) ?_
  rw [bs_length, wr64 (by omega) (by omega)]
  exact Es.bind h.top (Es.now _)
/-! Scale -/
theorem scale_l0 (p : List G) (c : G) (hp : p.length < 1000000000) (d : Nat) : ∀ (o : List G) (i : Nat), i + d = p.length → o.length = p.length → (∀ j, j < i → co o j = c * co p j) →
    Es (fun n m k => gf_Scale.l0 n m k (c.i, bs o, bs p, (p.length : Int), (i : Int), ())) (bs (scale c p), ()) := by
  induction d with
  | zero =>
    intro o i hn ho h
    refine Es.step (fun n m k => gf_Scale.l0_eq n m k _ _ _ _ _) (Es.neg (by simp; omega) ?_)
    rw [show o = scale c p from ext_co (by rw [ho, scale_length]) (fun j hj => by rw [h j (by omega), co_scale])]
    exact Es.now _
  | succ d ih =>
    intro o i hn ho h
    refine Es.step (fun n m k => gf_Scale.l0_eq n m k _ _ _ _ _) (Es.pos (by simp; omega) (Es.pos (by omega) (Es.pos (by rw [bs_length]; omega) ?_)))
    rw [rd_bs]
    refine Es.bind (mul_es _ _) (Es.pos (by omega) (Es.pos (by rw [bs_length]; omega) ?_))
    dsimp only
    rw [Int.toNat_natCast, bs_set, s_nat (by omega)]
    refine ih _ (i + 1) (by omega) (by rw [List.length_set]; exact ho) (fun j hj => ?_)
    rw [co_set _ _ _ _ (by omega)]
    by_cases e : j = i
    · rw [if_pos e, e, mul_comm]
    · rw [if_neg e, h j (by omega)]
theorem scale_es (p : List G) (c : G) (hp : p.length < 1000000000) : Es (fun n _ _ => gf_Scale.f n (bs p, c.i, ())) (bs (scale c p), ()) := by
  refine Es.congr (fun n _ _ => gf_Scale.eq n _ _) ?_
  rw [bs_length, Int.toNat_natCast, bs_replicate]
  exact Es.pos (by omega) (Es.pos (lim_of (by omega)) (Es.bind (Es.top (scale_l0 p c hp p.length _ 0 (by omega) List.length_replicate (fun j hj => by omega))) (Es.now _)))
/-! unlike bytes -/
theorem nodup_co {xs : List G} : xs.Nodup ↔ ∀ a b, a < b → b < xs.length → co xs a ≠ co xs b := by
  rw [List.Nodup, List.pairwise_iff_getElem]
  constructor
  · intro h a b hab hb
    rw [co_lt (by omega), co_lt hb]
    exact h a b (by omega) hb hab
  · intro h a b ha hb hab
    have := h a b hab hb
    rwa [co_lt ha, co_lt hb] at this
theorem twice_l0 (xs : List G) (hx : xs.length < 1000000000) (hd : xs.Nodup) (d : Nat) : ∀ (s : List Bool) (i : Nat), i + d = xs.length → (∀ x : G, s.getD x.v.toNat false = true → ∃ j, j < i ∧ co xs j = x) →
    s.length = 256 → Es (fun n m k => poly_twice.l0 n m k ((s, ()), bs xs, (xs.length : Int), (i : Int), ())) (Sum.inr ()) := by
  induction d with
  | zero =>
    intro s i hi h hl
    exact Es.step (fun n m k => poly_twice.l0_eq n m k _ _ _ _) (Es.neg (by simp; omega) (Es.now _))
  | succ d ih =>
    intro s i hi h hl
    have hg := i_nonneg (co xs i)
    have hg2 := i_lt (co xs i)
    have ht : ((co xs i).i).toNat = (co xs i).v.toNat := rfl
    refine Es.step (fun n m k => poly_twice.l0_eq n m k _ _ _ _) (Es.pos (by simp; omega) (Es.pos (by omega) (Es.pos (by rw [bs_length]; omega) ?_)))
    rw [rd_bs, ht]
    refine Es.pos hg (Es.pos (by omega) (Es.neg ?_ (Es.pos hg (Es.pos (by omega) ?_))))
    · intro hs
      obtain ⟨j, hj, e⟩ := h _ hs
      exact nodup_co.1 hd j i hj (by omega) e
    · rw [s_nat (by omega)]
      refine ih _ (i + 1) (by omega) (fun x hx2 => ?_) (by rw [List.length_set]; exact hl)
      by_cases e : x.v.toNat = (co xs i).v.toNat
      · exact ⟨i, by omega, G.eq_of (BitVec.eq_of_toNat_eq e.symm)⟩
      · rw [List.getD_eq_getElem?_getD, List.getElem?_set_ne (Ne.symm e), ← List.getD_eq_getElem?_getD] at hx2
        obtain ⟨j, hj, e2⟩ := h x hx2
        exact ⟨j, by omega, e2⟩
theorem twice_no (xs : List G) (hx : xs.length < 1000000000) (hd : xs.Nodup) : Es (fun n _ _ => poly_twice.f n (bs xs, ())) (false, ()) := by
  refine Es.congr (fun n _ _ => poly_twice.eq n _) ?_
  rw [bs_length]
  refine Es.bind (Es.top (twice_l0 xs hx hd xs.length (List.replicate 256 false) 0 (by omega) (fun x h => ?_) List.length_replicate)) (Es.now _)
  rw [List.getD_eq_getElem?_getD, List.getElem?_replicate] at h
  split at h <;> simp at h
/-! through values -/
def nst (xs ys : List G) : Nat → List G × List G
  | 0 => ([], [1])
  | n + 1 =>
    let s := nst xs ys n
    (padd s.1 (scale ((co ys n + ev s.1 (co xs n)) * inv (ev s.2 (co xs n))) s.2), pmul s.2 [co xs n, 1])
def interp (xs ys : List G) : List G := (nst xs ys xs.length).1
theorem ev_lin (a x : G) : ev [a, 1] x = a + x := by simp only [ev_cons, ev_nil, mul_zero, add_zero, mul_one]
theorem pmul_len_le (p q : List G) (h : 0 < q.length) : (pmul p q).length ≤ p.length + q.length - 1 := by
  apply trim_len_le_of
  intro j hj
  rw [← co_trim]
  exact co_pmul_ge (fun i hi => co_ge hi) (fun i hi => co_ge hi) (by omega)
theorem nst_facts (xs ys : List G) (hd : xs.Nodup) : ∀ n, n ≤ xs.length → (nst xs ys n).1.length ≤ n ∧ trim (nst xs ys n).1 = (nst xs ys n).1 ∧ (nst xs ys n).2.length ≤ n + 1 ∧
    (∀ j, j < n → ev (nst xs ys n).1 (co xs j) = co ys j) ∧ (∀ j, j < n → ev (nst xs ys n).2 (co xs j) = 0) ∧ (∀ x, (∀ j, j < n → x ≠ co xs j) → ev (nst xs ys n).2 x ≠ 0) := by
  intro n
  induction n with
  | zero =>
    intro _
    refine ⟨Nat.le_refl _, rfl, Nat.le_refl _, fun j hj => by omega, fun j hj => by omega, fun x _ => ?_⟩
    show ev [1] x ≠ 0
    rw [ev_cons, ev_nil, mul_zero, add_zero]
    exact one_ne_zero
  | succ n ih =>
    intro hn
    obtain ⟨h1, h2, h3, h4, h5, h6⟩ := ih (by omega)
    have hz : ev (nst xs ys n).2 (co xs n) ≠ 0 := h6 _ (fun j hj e => nodup_co.1 hd j n hj (by omega) e.symm)
    refine ⟨?_, trim_padd _ _, ?_, ?_, ?_, ?_⟩
    · refine Nat.le_trans (padd_length_le _ _) ?_
      rw [scale_length]
      omega
    · refine Nat.le_trans (pmul_len_le _ _ (by simp)) ?_
      simp only [List.length_cons, List.length_nil]
      omega
    · intro j hj
      show ev (padd _ _) _ = _
      rw [ev_padd, ev_scale]
      by_cases e : j = n
      · subst e
        rw [mul_assoc, inv_mul hz, mul_one, add_comm (co ys j), add_add_self]
      · rw [h5 j (by omega), mul_zero, add_zero, h4 j (by omega)]
    · intro j hj
      show ev (pmul _ _) _ = _
      rw [ev_pmul, ev_lin]
      by_cases e : j = n
      · rw [e, add_self, mul_zero]
      · rw [h5 j (by omega), zero_mul]
    · intro x hx
      show ev (pmul _ _) _ ≠ _
      rw [ev_pmul, ev_lin]
      refine mul_ne_zero (h6 x (fun j hj => hx j (by omega))) (fun e => ?_)
      exact hx n (by omega) (add_eq_zero.1 e).symm
theorem interp_facts {xs ys : List G} (hd : xs.Nodup) : (interp xs ys).length ≤ xs.length ∧ trim (interp xs ys) = interp xs ys ∧ ∀ j, j < xs.length → ev (interp xs ys) (co xs j) = co ys j := by
  obtain ⟨h1, h2, _, h4, _⟩ := nst_facts xs ys hd xs.length (Nat.le_refl _)
  exact ⟨h1, h2, h4⟩
theorem interp_unique {xs ys p : List G} (hd : xs.Nodup) (hp : p.length ≤ xs.length) (h : ∀ j, j < xs.length → ev p (co xs j) = co ys j) : trim p = interp xs ys := by
  obtain ⟨h1, h2, h3⟩ := interp_facts (ys := ys) hd
  rw [← h2]
  apply trim_congr
  apply same_of_values hd hp h1
  intro x hx
  obtain ⟨j, hj, rfl⟩ := List.getElem_of_mem hx
  rw [← co_lt hj, h j hj, h3 j hj]
theorem through_l1 (xs ys : List G) (hd : xs.Nodup) (hl : xs.length = ys.length) (hx : xs.length < 10000000) (d : Nat) : ∀ i : Nat, i + d = xs.length →
    Es (fun n m k => poly_Through.l1 n m k (bs ys, bs (nst xs ys i).1, bs (nst xs ys i).2, bs xs, (xs.length : Int), (i : Int), ())) (bs (interp xs ys), ()) := by
  induction d with
  | zero =>
    intro i hn
    refine Es.step (fun n m k => poly_Through.l1_eq n m k _ _ _ _ _ _) (Es.neg (by simp; omega) ?_)
    rw [interp, show xs.length = i by omega]
    exact Es.now _
  | succ d ih =>
    intro i hn
    obtain ⟨h1, h2, h3, h4, h5, h6⟩ := nst_facts xs ys hd i (by omega)
    have hz : ev (nst xs ys i).2 (co xs i) ≠ 0 := h6 _ (fun j hj e => nodup_co.1 hd j i hj (by omega) e.symm)
    refine Es.step (fun n m k => poly_Through.l1_eq n m k _ _ _ _ _ _) (Es.pos (by simp; omega) (Es.pos (by omega) (Es.pos (by rw [bs_length]; omega) (Es.pos (by omega) (Es.pos (by rw [bs_length]; omega) ?_)))))
    rw [rd_bs, rd_bs]
    refine Es.bind (eval_es _ _ (by omega)) (Es.bind (eval_es _ _ (by omega)) ?_)
    dsimp only
    rw [xor8]
    refine Es.bind (div_es _ _ hz) ?_
    dsimp only
    refine Es.bind (scale_es _ _ (by omega)) (Es.bind (add_es _ _ (by omega) (by rw [scale_length]; omega)) ?_)
    refine Es.bind (a := (bs (pmul (nst xs ys i).2 [co xs i, 1]), ())) (pmul_es _ [co xs i, 1] (by omega) (by simp)) ?_
    rw [s_nat (by omega)]
    exact ih (i + 1) (by omega)
theorem through_es (xs ys : List G) (hd : xs.Nodup) (hl : xs.length = ys.length) (hx : xs.length < 10000000) : Es (fun n _ _ => poly_Through.f n (bs xs, bs ys, ())) (bs (interp xs ys), 0, ()) := by
  refine Es.congr (fun n _ _ => poly_Through.eq n _ _) (Es.neg (by simp [bs_length]; omega) (Es.bind (twice_no xs (by omega) hd) (Es.neg (by decide) ?_)))
  rw [bs_length]
  exact Es.bind (Es.top (through_l1 xs ys hd hl hx xs.length 0 (by omega))) (Es.now _)
end Go.Proofs.YtlioalaehkohlaaDoor.Al

namespace Go.Proofs.YtlioalaehkohlaaDoor.Al
open Go Go.RowKit Go.Proofs.YtlioalaehkohlaaDoor.Vm
set_option linter.unusedVariables false
set_option linter.unusedSimpArgs false
set_option linter.unusedSectionVars false
theorem tab_bs (n : Nat) (f : Nat → G) : bs (tab n f) ++ [(f n).i] = bs (tab (n + 1) f) := by rw [tab_succ, bs_append]; rfl
/-- place i -/
def pl (i : Nat) : G := G.of ((i : Int) % 256)
theorem pl_i (i : Nat) : (i : Int) % 256 = (pl i).i := by rw [pl, i_of (by omega) (by omega)]
theorem pl_ne {a b : Nat} (hab : a < b) (hb : b < 256) : pl a ≠ pl b := by
  intro e
  have := congrArg G.i e
  rw [← pl_i, ← pl_i] at this
  omega
def places (n : Nat) : List G := tab n pl
theorem places_length (n : Nat) : (places n).length = n := tab_length n pl
theorem co_places {n i : Nat} (h : i < n) : co (places n) i = pl i := by rw [places, co_tab, if_pos h]
theorem places_nodup {n : Nat} (hn : n ≤ 256) : (places n).Nodup := by
  rw [nodup_co]
  intro a b hab hb
  rw [places_length] at hb
  rw [co_places (by omega), co_places hb]
  exact pl_ne hab (by omega)
theorem places_l0 (c : Nat) (hm : c < 1000000000) (d : Nat) : ∀ i : Nat, i + d = c → Es (fun n m k => systematic_places.l0 n m k (bs (places i), (c : Int), (i : Int), ())) (bs (places c), ()) := by
  induction d with
  | zero =>
    intro i hn
    obtain rfl : i = c := by omega
    exact Es.step (fun n m k => systematic_places.l0_eq n m k _ _ _) (Es.neg (by simp) (Es.now _))
  | succ d ih =>
    intro i hn
    refine Es.step (fun n m k => systematic_places.l0_eq n m k _ _ _) (Es.pos (by simp; omega) (Es.pos (lim_of (by rw [bs_length, places_length]; simp; omega)) ?_))
    rw [wru8, pl_i, places, tab_bs i pl, s_nat (by omega)]
    exact ih (i + 1) (by omega)
theorem places_es (c : Nat) (hm : c < 1000000000) : Es (fun n _ _ => systematic_places.f n ((c : Int), ())) (bs (places c), ()) :=
  Es.congr (fun n _ _ => systematic_places.eq n _) (Es.bind (Es.top (places_l0 c hm c 0 (by omega))) (Es.now _))
/-- the polynomial through the first bytes -/
def gen (d : List G) : List G := interp (places d.length) d
theorem gen_facts {d : List G} (hd : d.length ≤ 256) : (gen d).length ≤ d.length ∧ trim (gen d) = gen d ∧ ∀ j, j < d.length → ev (gen d) (pl j) = co d j := by
  obtain ⟨h1, h2, h3⟩ := interp_facts (ys := d) (places_nodup hd)
  rw [places_length] at h1 h3
  refine ⟨h1, h2, fun j hj => ?_⟩
  have := h3 j hj
  rwa [co_places hj] at this
theorem gen_unique {d p : List G} (hd : d.length ≤ 256) (hp : p.length ≤ d.length) (h : ∀ j, j < d.length → ev p (pl j) = co d j) : trim p = gen d :=
  interp_unique (places_nodup hd) (by rw [places_length]; exact hp) (fun j hj => by
    rw [places_length] at hj
    rw [co_places hj]
    exact h j hj)
/-- all values of a polynomial -/
def vals (p : List G) (n : Nat) : List G := tab n (fun i => ev p (pl i))
theorem vals_length (p : List G) (n : Nat) : (vals p n).length = n := tab_length n _
theorem co_vals {p : List G} {n i : Nat} (h : i < n) : co (vals p n) i = ev p (pl i) := by rw [vals, co_tab, if_pos h]
theorem through_places (d : List G) (hd : d.length ≤ 256) : Es (fun n _ _ => poly_Through.f n (bs (places d.length), bs d, ())) (bs (gen d), 0, ()) :=
  through_es _ _ (places_nodup hd) (places_length _) (by rw [places_length]; omega)
/-- the bytes that follow -/
def more (d : List G) (k : Nat) : List G := tab k (fun i => ev (gen d) (pl (d.length + i)))
theorem more_length (d : List G) (k : Nat) : (more d k).length = k := tab_length k _
/-- the codeword of data -/
def word (d : List G) (k : Nat) : List G := vals (gen d) (d.length + k)
theorem word_length (d : List G) (k : Nat) : (word d k).length = d.length + k := vals_length _ _
theorem word_eq (d : List G) (k : Nat) (hd : d.length ≤ 256) : d ++ more d k = word d k := by
  apply ext_co
  · rw [List.length_append, more_length, word_length]
  · intro i hi
    rw [List.length_append, more_length] at hi
    rw [co_append, word, co_vals hi]
    by_cases h : i < d.length
    · rw [if_pos h, (gen_facts hd).2.2 i h]
    · rw [if_neg h, more, co_tab, if_pos (by omega), show d.length + (i - d.length) = i by omega]
theorem encode_l1 (d : List G) (c : Nat) (hd : d.length + c ≤ 255) (e : Nat) : ∀ i : Nat, i + e = c →
    Es (fun n m k => systematic_Encode.l1 n m k ((d.length : Int), bs (gen d), bs (more d i), (c : Int), (i : Int), ())) (bs (more d c), ()) := by
  have hg := (gen_facts (d := d) (by omega)).1
  induction e with
  | zero =>
    intro i hn
    obtain rfl : i = c := by omega
    exact Es.step (fun n m k => systematic_Encode.l1_eq n m k _ _ _ _ _) (Es.neg (by simp) (Es.now _))
  | succ e ih =>
    intro i hn
    refine Es.step (fun n m k => systematic_Encode.l1_eq n m k _ _ _ _ _) (Es.pos (by simp; omega) ?_)
    have hw : wr .i64 ((d.length : Int) + (i : Int)) = ((d.length + i : Nat) : Int) := by rw [wr64 (by omega) (by omega)]; omega
    rw [hw, wru8, pl_i]
    refine Es.bind (eval_es _ _ (by omega)) (Es.pos (lim_of (by rw [bs_length, more_length]; simp; omega)) ?_)
    dsimp only
    rw [more, tab_bs i (fun i => ev (gen d) (pl (d.length + i))), s_nat (by omega)]
    exact ih (i + 1) (by omega)
theorem encode_es (d : List G) (c : Nat) (h0 : 0 < d.length) (hd : d.length + c ≤ 255) : Es (fun n _ _ => systematic_Encode.f n (bs d, (c : Int), ())) (bs (more d c), 0, ()) := by
  refine Es.congr (fun n _ _ => systematic_Encode.eq n _ _) ?_
  rw [bs_length, wr64 (x := (d.length : Int) + (c : Int)) (by omega) (by omega)]
  refine Es.neg (by simp; intro h; subst h; simp at h0) (Es.neg (by simp) (Es.neg (by simp; omega) (Es.neg (by simp; omega) ?_)))
  exact Es.bind (places_es _ (by omega)) (Es.bind (through_places d (by omega)) (Es.bind (Es.top (encode_l1 d c hd c 0 (by omega))) (Es.now _)))
/-- w is a codeword of n bytes: some polynomial of n coefficients has its bytes as values -/
def IsWord (w : List G) (n : Nat) : Prop := ∃ p : List G, p.length ≤ n ∧ ∀ j, j < w.length → ev p (pl j) = co w j
theorem isWord_iff {w : List G} {n : Nat} (hw : w.length ≤ 255) (hn : n ≤ w.length) : IsWord w n ↔ (gen w).length ≤ n := by
  constructor
  · rintro ⟨p, hp, h⟩
    rw [← gen_unique (d := w) (by omega) (by omega) h]
    have := trim_length_le p
    omega
  · intro h
    exact ⟨gen w, h, (gen_facts (by omega)).2.2⟩
theorem is_es (w : List G) (c : Nat) (h1 : 1 ≤ c) (hn : c ≤ w.length) (hw : w.length ≤ 255) [Decidable (IsWord w c)] : Es (fun n _ _ => systematic_Is.f n (bs w, (c : Int), ())) (decide (IsWord w c), ()) := by
  refine Es.congr (fun n _ _ => systematic_Is.eq n _ _) ?_
  have hm : ∀ n, systematic_may.f n (bs w, (c : Int), ()) = some (true, ()) := fun n => by
    rw [systematic_may.eq, bs_length, if_pos (decide_eq_true (by omega)), if_pos (decide_eq_true (by omega)), decide_eq_true (by omega)]
  have hg := gen_facts (d := w) (by omega)
  rw [bs_length]
  refine Es.bind (Es.of 0 (fun n _ => hm n)) (Es.neg (by decide) (Es.bind (places_es _ (by omega)) (Es.bind (through_places w (by omega)) (Es.bind (degree_es _ (by omega)) ?_))))
  rw [hg.2.1]
  have : decide ((((gen w).length : Int) - 1) < (c : Int)) = decide (IsWord w c) := by
    rw [decide_eq_decide, isWord_iff hw hn]
    omega
  dsimp only
  rw [this]
  exact Es.now _
theorem is_true (w : List G) (c : Nat) (h1 : 1 ≤ c) (hn : c ≤ w.length) (hw : w.length ≤ 255) (h : IsWord w c) : Es (fun n _ _ => systematic_Is.f n (bs w, (c : Int), ())) (true, ()) := by
  haveI : Decidable (IsWord w c) := .isTrue h
  exact esc (is_es w c h1 hn hw) (by rw [decide_eq_true h])
theorem word_isWord (d : List G) (k : Nat) (hd : d.length ≤ 256) : IsWord (word d k) d.length :=
  ⟨gen d, (gen_facts hd).1, fun j hj => by rw [word_length] at hj; rw [word, co_vals hj]⟩
/-! rows of columns -/
def crow (M : List (List G)) (i : Nat) : List G := M.map (fun c => co c i)
theorem crow_length (M : List (List G)) (i : Nat) : (crow M i).length = M.length := List.length_map _
def bss (M : List (List G)) : List (List Int) := M.map bs
theorem bss_length (M : List (List G)) : (bss M).length = M.length := List.length_map _
theorem bss_getD (M : List (List G)) (i : Nat) : (bss M).getD i [] = bs (M.getD i []) := by
  simp only [bss, List.getD_eq_getElem?_getD, List.getElem?_map]
  cases M[i]? <;> rfl
/-- columns that are as long -/
def Wd (M : List (List G)) (w : Nat) : Prop := ∀ c ∈ M, c.length = w
theorem Wd.getD {M : List (List G)} {w : Nat} (h : Wd M w) {i : Nat} (hi : i < M.length) : (M.getD i []).length = w := by
  rw [List.getD_eq_getElem?_getD, List.getElem?_eq_getElem hi]
  exact h _ (List.getElem_mem hi)
theorem crow_take (M : List (List G)) (i j : Nat) (hj : j < M.length) : bs (crow (M.take j) i) ++ [(co (M.getD j []) i).i] = bs (crow (M.take (j + 1)) i) := by
  rw [List.take_add_one, List.getElem?_eq_getElem hj, crow, crow, List.map_append, bs_append, List.getD_eq_getElem?_getD, List.getElem?_eq_getElem hj]
  rfl
theorem row_l0 (M : List (List G)) (i w : Nat) (hM : M.length ≤ 1000) (hw : Wd M w) (hi : i < w) (d : Nat) : ∀ j : Nat, j + d = M.length →
    Es (fun n m k => stripe_row.l0 n m k ((i : Int), bs (crow (M.take j) i), bss M, (M.length : Int), (j : Int), ())) (bs (crow M i), ()) := by
  induction d with
  | zero =>
    intro j hj
    obtain rfl : j = M.length := by omega
    exact Es.step (fun n m k => stripe_row.l0_eq n m k _ _ _ _ _) (Es.neg (by simp) (by rw [List.take_length]; exact Es.now _))
  | succ d ih =>
    intro j hj
    have hl := hw.getD (show j < M.length by omega)
    refine Es.step (fun n m k => stripe_row.l0_eq n m k _ _ _ _ _) (Es.pos (by simp; omega) (Es.pos (by omega) (Es.pos (by rw [bss_length]; omega) (Es.pos (by omega) ?_))))
    rw [Int.toNat_natCast, bss_getD, bs_length, hl, rd_bs]
    refine Es.pos (by omega) (Es.pos (lim_of (by rw [bs_length, crow_length, List.length_take]; simp; omega)) ?_)
    rw [crow_take M i j (by omega), s_nat (by omega)]
    exact ih (j + 1) (by omega)
theorem row_es (M : List (List G)) (i w : Nat) (hM : M.length ≤ 1000) (hw : Wd M w) (hi : i < w) : Es (fun n _ _ => stripe_row.f n (bss M, (i : Int), ())) (bs (crow M i), ()) := by
  refine Es.congr (fun n _ _ => stripe_row.eq n _ _) ?_
  rw [bss_length]
  exact Es.bind (Es.top (row_l0 M i w hM hw hi M.length 0 (by omega))) (Es.now _)
/-- the columns that follow, up to row w; m of them one further -/
def parm (M : List (List G)) (c w m : Nat) : List (List G) := (List.range c).map (fun j => tab (if j < m then w + 1 else w) (fun i => co (more (crow M i) c) j))
def par (M : List (List G)) (c w : Nat) : List (List G) := parm M c w 0
theorem parm_length (M : List (List G)) (c w m : Nat) : (parm M c w m).length = c := by simp [parm]
theorem parm_getD (M : List (List G)) {c w m j : Nat} (h : j < c) : (parm M c w m).getD j [] = tab (if j < m then w + 1 else w) (fun i => co (more (crow M i) c) j) := by
  unfold parm
  rw [List.getD_eq_getElem?_getD, List.getElem?_map, List.getElem?_range h]
  rfl
theorem parm_ext {A B : List (List G)} (hl : A.length = B.length) (h : ∀ j, j < A.length → A.getD j [] = B.getD j []) : A = B := by
  apply List.ext_getElem hl
  intro j h1 h2
  have := h j h1
  rwa [List.getD_eq_getElem?_getD, List.getElem?_eq_getElem h1, List.getD_eq_getElem?_getD, List.getElem?_eq_getElem h2] at this
theorem parm_all (M : List (List G)) (c w : Nat) : parm M c w c = par M c (w + 1) := by
  apply parm_ext (by rw [par, parm_length, parm_length])
  intro j hj
  rw [parm_length] at hj
  rw [par, parm_getD M hj, parm_getD M hj, if_pos hj, if_neg (by omega)]
theorem parm_set (M : List (List G)) (c w m : Nat) (hm : m < c) : (parm M c w m).set m ((parm M c w m).getD m [] ++ [co (more (crow M w) c) m]) = parm M c w (m + 1) := by
  apply parm_ext (by rw [List.length_set, parm_length, parm_length])
  intro j hj
  rw [List.length_set, parm_length] at hj
  by_cases e : j = m
  · subst e
    rw [List.getD_eq_getElem?_getD, List.getElem?_set_self (by rw [parm_length]; exact hj), parm_getD M hj, parm_getD M hj, if_neg (by omega), if_pos (by omega), tab_succ]
    rfl
  · rw [List.getD_eq_getElem?_getD, List.getElem?_set_ne (Ne.symm e), ← List.getD_eq_getElem?_getD, parm_getD M hj, parm_getD M hj]
    by_cases h1 : j < m
    · rw [if_pos h1, if_pos (by omega)]
    · rw [if_neg h1, if_neg (by omega)]
theorem bss_set (M : List (List G)) (j : Nat) (c : List G) : List.set (bss M) j (bs c) = bss (M.set j c) := List.map_set.symm
theorem parity_l2 (M : List (List G)) (c w : Nat) (b38 : Int) (hw : w ≤ 1000000) (hc : c ≤ 1000) (d : Nat) : ∀ j : Nat, j + d = c →
    Es (fun n m k => stripe_Parity.l2 n m k ((c : Int), (bss M, ()), bss (parm M c w j), b38, (w : Int), bs (more (crow M w) c), (c : Int), (j : Int), ())) ((c : Int), (bss M, ()), bss (par M c (w + 1)), b38, (w : Int), ()) := by
  induction d with
  | zero =>
    intro j hj
    obtain rfl : j = c := by omega
    exact Es.step (fun n m k => stripe_Parity.l2_eq n m k _ _ _ _ _ _ _ _) (Es.neg (by simp) (by rw [parm_all]; exact Es.now _))
  | succ d ih =>
    intro j hj
    refine Es.step (fun n m k => stripe_Parity.l2_eq n m k _ _ _ _ _ _ _ _) (Es.pos (by simp; omega) (Es.pos (by omega) (Es.pos (by rw [bs_length, more_length]; omega) (Es.pos (by omega) (Es.pos (by rw [bss_length, parm_length]; omega) ?_)))))
    rw [rd_bs, Int.toNat_natCast, bss_getD]
    have hl : ((parm M c w j).getD j []).length ≤ 1000001 := by rw [parm_getD M (by omega), tab_length]; split <;> omega
    refine Es.pos (lim_of (by rw [bs_length]; show _ + ((1 : Nat) : Int) ≤ _; omega)) (Es.pos (by omega) (Es.pos (by rw [bss_length, parm_length]; omega) (Es.pos rfl ?_)))
    have e : bs ((parm M c w j).getD j []) ++ [(co (more (crow M w) c) j).i] = bs ((parm M c w j).getD j [] ++ [co (more (crow M w) c) j]) := by rw [bs_append]; rfl
    rw [e, bss_set, parm_set M c w j (by omega), s_nat (by omega)]
    exact ih (j + 1) (by omega)
theorem parity_l0 (M : List (List G)) (c w : Nat) (hM : 0 < M.length) (hMc : M.length + c ≤ 255) (hW : Wd M w) (hw : w ≤ 1000000) (d : Nat) : ∀ i : Nat, i + d = w →
    Es (fun n m k => stripe_Parity.l0 n m k ((c : Int), (bss M, ()), bss (par M c i), (w : Int), (i : Int), ())) (bss (par M c w), ()) := by
  induction d with
  | zero =>
    intro i hi
    obtain rfl : i = w := by omega
    exact Es.step (fun n m k => stripe_Parity.l0_eq n m k _ _ _ _ _) (Es.neg (by simp) (Es.now _))
  | succ d ih =>
    intro i hi
    refine Es.step (fun n m k => stripe_Parity.l0_eq n m k _ _ _ _ _) (Es.pos (by simp; omega) (Es.bind (row_es M i w (by omega) hW (by omega)) (Es.bind (encode_es (crow M i) c (by rw [crow_length]; exact hM) (by rw [crow_length]; exact hMc)) ?_)))
    dsimp only
    have h2 := parity_l2 M c i (w : Int) (by omega) (by omega) c 0 (by omega)
    rw [show ((0 : Nat) : Int) = 0 from rfl] at h2
    rw [bs_length, more_length]
    refine Es.bind h2.inn ?_
    dsimp only
    rw [s_nat (by omega)]
    exact ih (i + 1) (by omega)
theorem par_zero (M : List (List G)) (c : Nat) : bss (par M c 0) = List.replicate c [] := by
  unfold bss par parm
  rw [List.map_map, List.eq_replicate_iff]
  refine ⟨by simp, fun x hx => ?_⟩
  obtain ⟨j, _, rfl⟩ := List.mem_map.1 hx
  simp [tab, bs]
/-! are all columns as long? -/
theorem unlike_es (M : List (List G)) (w j : Nat) (h0 : 0 < M.length) (hW : Wd M w) (hj : j < M.length) : Es (fun n _ _ => stripe_Parity_1.f n (bs (M.getD j []), (bss M, ()), ())) ((bss M, ()), false, ()) := by
  refine Es.congr (fun n _ _ => stripe_Parity_1.eq n _ _) (Es.pos (by decide) (Es.pos (by rw [bss_length]; omega) ?_))
  rw [show Int.toNat (0 : Int) = 0 from rfl, bss_getD, bs_length, bs_length, hW.getD hj, hW.getD h0, bne_self_eq_false]
  exact Es.now _
theorem index_l0 (M : List (List G)) (w : Nat) (hM : M.length ≤ 1000) (h0 : 0 < M.length) (hW : Wd M w) (d : Nat) : ∀ j : Nat, j + d = M.length →
    Es (fun n m k => slices_IndexFunc_byte_byte_stripe_Parity_1.l0 n m k (bss M, ((bss M, ()), ()), (M.length : Int), (j : Int), ())) (Sum.inr (((bss M, ()), ()), ())) := by
  induction d with
  | zero =>
    intro j hj
    obtain rfl : j = M.length := by omega
    exact Es.step (fun n m k => slices_IndexFunc_byte_byte_stripe_Parity_1.l0_eq n m k _ _ _ _) (Es.neg (by simp) (Es.now _))
  | succ d ih =>
    intro j hj
    refine Es.step (fun n m k => slices_IndexFunc_byte_byte_stripe_Parity_1.l0_eq n m k _ _ _ _) (Es.pos (by simp; omega) (Es.pos (by omega) (Es.pos (by rw [bss_length]; omega) ?_)))
    rw [Int.toNat_natCast, bss_getD]
    refine Es.bind (unlike_es M w j h0 hW (by omega)) (Es.neg Bool.false_ne_true ?_)
    dsimp only
    rw [s_nat (by omega)]
    exact ih (j + 1) (by omega)
theorem alike_es (M : List (List G)) (w : Nat) (hM : M.length ≤ 1000) (h0 : 0 < M.length) (hW : Wd M w) : Es (fun n _ _ => slices_ContainsFunc_byte_byte_stripe_Parity_1.f n (bss M, ((bss M, ()), ()), ())) (((bss M, ()), ()), false, ()) := by
  refine Es.congr (fun n _ _ => slices_ContainsFunc_byte_byte_stripe_Parity_1.eq n _ _) (Es.bind (a := (((bss M, ()), ()), (-1 : Int), ())) ?_ (Es.now _))
  refine Es.congr (fun n _ _ => slices_IndexFunc_byte_byte_stripe_Parity_1.eq n _ _) ?_
  rw [bss_length]
  exact Es.bind (Es.top (index_l0 M w hM h0 hW M.length 0 (by omega))) (Es.now _)
theorem parity_es (M : List (List G)) (c w : Nat) (hM : 0 < M.length) (hMc : M.length + c ≤ 255) (hW : Wd M w) (hw : w ≤ 1000000) : Es (fun n _ _ => stripe_Parity.f n (bss M, (c : Int), ())) (bss (par M c w), 0, ()) := by
  refine Es.congr (fun n _ _ => stripe_Parity.eq n _ _) ?_
  rw [bss_length]
  refine Es.neg (by simp; intro h; subst h; simp at hM) (Es.neg (by simp) (Es.bind (alike_es M w (by omega) hM hW) (Es.neg Bool.false_ne_true ?_)))
  dsimp only
  rw [bss_length, wr64 (by omega) (by omega)]
  refine Es.neg (by simp; omega) (Es.neg (by simp; omega) (Es.pos (by omega) (Es.pos (lim_of (by omega)) (Es.pos (by decide) (Es.pos (by omega) ?_)))))
  rw [show Int.toNat (0 : Int) = 0 from rfl, bss_getD, bs_length, hW.getD hM, Int.toNat_natCast, ← par_zero M c]
  exact Es.bind (Es.top (parity_l0 M c w hM hMc hW hw w 0 (by omega))) (Es.now _)
end Go.Proofs.YtlioalaehkohlaaDoor.Al

namespace Go.Proofs.YtlioalaehkohlaaDoor.Vm
open Go Go.RowKit
set_option linter.unusedVariables false
set_option linter.unusedSimpArgs false
set_option linter.unusedSectionVars false
set_option maxRecDepth 10000
/-- numbers of so many bytes, one behind the other -/
def lays (k : Nat) (l : List Int) : List Int := (l.map (le k)).flatten
theorem lays_append (k : Nat) (l m : List Int) : lays k (l ++ m) = lays k l ++ lays k m := by unfold lays; rw [List.map_append, List.flatten_append]
theorem lays_len (k : Nat) : ∀ l : List Int, (lays k l).length = k * l.length
  | [] => rfl
  | x :: l => by
    show (le k x ++ lays k l).length = _
    rw [List.length_append, le_len, lays_len k l, List.length_cons, Nat.mul_add, Nat.mul_one, Nat.add_comm]
theorem lays_by (k : Nat) : ∀ l : List Int, By (lays k l)
  | [] => By.nil
  | x :: l => (le_by k x).append (lays_by k l)
theorem lays_drop (k : Nat) : ∀ (l : List Int) (i : Nat), (lays k l).drop (k * i) = lays k (l.drop i)
  | l, 0 => rfl
  | [], i + 1 => by simp [lays]
  | x :: l, i + 1 => by
    show (le k x ++ lays k l).drop (k * (i + 1)) = lays k (l.drop i)
    have h : (le k x ++ lays k l).drop k = lays k l := by
      rw [List.drop_append_of_le_length (by rw [le_len]; exact Nat.le_refl _), List.drop_of_length_le (by rw [le_len]; exact Nat.le_refl _), List.nil_append]
    rw [Nat.mul_add, Nat.mul_one, Nat.add_comm, ← List.drop_drop, h, lays_drop k l i]
theorem lays_flat (k : Nat) : ∀ ls : List (List Int), (ls.map (lays k)).flatten = lays k ls.flatten
  | [] => rfl
  | l :: ls => by rw [List.map_cons, List.flatten_cons, List.flatten_cons, lays_append, lays_flat k ls]
/-- A number that was laid is read there. -/
theorem gt_mid {p q : List Int} {i k : Nat} {x : Int} (hp : p.length = i) (h0 : 0 ≤ x) (h1 : x < 256 ^ k) : gt (p ++ (le k x ++ q)) i k = x := by
  subst hp
  unfold gt
  rw [List.drop_append_of_le_length (Nat.le_refl _), List.drop_of_length_le (Nat.le_refl _), List.nil_append, List.take_append_of_le_length (by rw [le_len]; exact Nat.le_refl _), List.take_of_length_le (by rw [le_len]; exact Nat.le_refl _), ge_le k h0 h1]
theorem gt_lays {p q : List Int} {l : List Int} {i j k : Nat} (hp : p.length = i) (hj : j < l.length) (h0 : 0 ≤ l[j]) (h1 : l[j] < 256 ^ k) : gt (p ++ (lays k l ++ q)) (i + k * j) k = l[j] := by
  have e : lays k l = lays k (l.take j) ++ (le k l[j] ++ lays k (l.drop (j + 1))) := by
    conv => lhs; rw [← List.take_append_drop j l, lays_append, List.drop_eq_getElem_cons hj]
    rfl
  rw [e, List.append_assoc, List.append_assoc, ← List.append_assoc p]
  exact gt_mid (by rw [List.length_append, lays_len, List.length_take, Nat.min_eq_left (by omega), hp]) h0 h1
theorem lay_l0 (n m : Nat) (hn : 9 ≤ n) {l : List Int} {s : Nat} (hs : s ≤ 8) (hl : l.length ≤ 1000000) (hx : ∀ x ∈ l, 0 ≤ x ∧ x < 18446744073709551616) : ∀ (d i k : Nat), i + d = l.length → d < k → seal_lay_int.l0 n m k ((s : Int), lays s (l.take i), l, (l.length : Int), (i : Int), ()) = some (lays s l, ())
  | 0, i, 0, _, h => absurd h (by decide)
  | d + 1, i, 0, _, h => absurd h (by omega)
  | 0, i, k + 1, hi, hk => by
    rw [seal_lay_int.l0_eq, if_neg (by simp; omega), List.take_of_length_le (by omega)]
  | d + 1, i, k + 1, hi, hk => by
    have ha : i < l.length := by omega
    have hxi := hx l[i] (List.getElem_mem ha)
    have e : lays s (l.take i) ++ le s l[i] = lays s (l.take (i + 1)) := by
      rw [List.take_add_one, List.getElem?_eq_getElem ha, lays_append]; simp [lays]
    rw [seal_lay_int.l0_eq, if_pos (by simp; omega), if_pos (by omega), if_pos (by omega), Int.toNat_natCast, getD_eq ha, wru64 hxi.1 hxi.2, put_is hn _ _ (by omega) (by omega), Option.bind_some]
    dsimp only
    have h8 : s * i ≤ 8 * i := Nat.mul_le_mul_right _ hs
    rw [Int.toNat_natCast, if_pos (lim_of (by rw [lays_len, le_len, List.length_take, Nat.min_eq_left (by omega)]; omega)), e, s_int i (by omega)]
    exact lay_l0 n m hn hs hl hx d (i + 1) k (by omega) (by omega)
theorem lay_is {n : Nat} (hn : 1000000 < n) {l : List Int} {s : Nat} (hs : s ≤ 8) (hl : l.length ≤ 1000000) (hx : ∀ x ∈ l, 0 ≤ x ∧ x < 18446744073709551616) : seal_lay_int.f n (l, (s : Int), ()) = some (lays s l, ()) := by
  have h := lay_l0 n n (by omega) hs hl hx l.length 0 n (by omega) (by omega)
  rw [show ((0 : Nat) : Int) = 0 from rfl, show lays s (l.take 0) = [] from rfl] at h
  rw [seal_lay_int.eq, h, Option.bind_some]
theorem layu_l0 (n m : Nat) (hn : 9 ≤ n) {l : List Int} {s : Nat} (hs : s ≤ 8) (hl : l.length ≤ 1000000) (hx : ∀ x ∈ l, 0 ≤ x ∧ x < 18446744073709551616) : ∀ (d i k : Nat), i + d = l.length → d < k → seal_lay_uint32.l0 n m k ((s : Int), lays s (l.take i), l, (l.length : Int), (i : Int), ()) = some (lays s l, ())
  | 0, i, 0, _, h => absurd h (by decide)
  | d + 1, i, 0, _, h => absurd h (by omega)
  | 0, i, k + 1, hi, hk => by
    rw [seal_lay_uint32.l0_eq, if_neg (by simp; omega), List.take_of_length_le (by omega)]
  | d + 1, i, k + 1, hi, hk => by
    have ha : i < l.length := by omega
    have hxi := hx l[i] (List.getElem_mem ha)
    have e : lays s (l.take i) ++ le s l[i] = lays s (l.take (i + 1)) := by
      rw [List.take_add_one, List.getElem?_eq_getElem ha, lays_append]; simp [lays]
    rw [seal_lay_uint32.l0_eq, if_pos (by simp; omega), if_pos (by omega), if_pos (by omega), Int.toNat_natCast, getD_eq ha, wru64 hxi.1 hxi.2, put_is hn _ _ (by omega) (by omega), Option.bind_some]
    dsimp only
    have h8 : s * i ≤ 8 * i := Nat.mul_le_mul_right _ hs
    rw [Int.toNat_natCast, if_pos (lim_of (by rw [lays_len, le_len, List.length_take, Nat.min_eq_left (by omega)]; omega)), e, s_int i (by omega)]
    exact layu_l0 n m hn hs hl hx d (i + 1) k (by omega) (by omega)
theorem layu_is {n : Nat} (hn : 1000000 < n) {l : List Int} {s : Nat} (hs : s ≤ 8) (hl : l.length ≤ 1000000) (hx : ∀ x ∈ l, 0 ≤ x ∧ x < 18446744073709551616) : seal_lay_uint32.f n (l, (s : Int), ()) = some (lays s l, ()) := by
  have h := layu_l0 n n (by omega) hs hl hx l.length 0 n (by omega) (by omega)
  rw [show ((0 : Nat) : Int) = 0 from rfl, show lays s (l.take 0) = [] from rfl] at h
  rw [seal_lay_uint32.eq, h, Option.bind_some]
/-- sums of all blocks -/
structure SmOk (g : Ge) (sm : List (List Int)) : Prop where
  len : sm.length = cN g
  row : ∀ r ∈ sm, r.length = nbN g
  num : ∀ r ∈ sm, ∀ x ∈ r, 0 ≤ x ∧ x < 4294967296
theorem sr_l0 (n m : Nat) {sm : List (List Int)} {c : Nat} (hl : sm.length ≤ 1000000) (hr : ∀ r ∈ sm, r.length = c) : ∀ (d i k : Nat), i + d = sm.length → d < k → slices_IndexFunc_uint32_uint32_seal_right_1.l0 n m k (sm, (((c : Int), ()), ()), (sm.length : Int), (i : Int), ()) = some (Sum.inr ((((c : Int), ()), ()), ()))
  | 0, i, 0, _, h => absurd h (by decide)
  | d + 1, i, 0, _, h => absurd h (by omega)
  | 0, i, k + 1, hi, hk => by
    rw [slices_IndexFunc_uint32_uint32_seal_right_1.l0_eq, if_neg (by simp; omega)]
  | d + 1, i, k + 1, hi, hk => by
    have ha : i < sm.length := by omega
    have hc := hr sm[i] (List.getElem_mem ha)
    have e : sm.getD i [] = sm[i] := by rw [List.getD_eq_getElem?_getD, List.getElem?_eq_getElem ha]; rfl
    rw [slices_IndexFunc_uint32_uint32_seal_right_1.l0_eq, if_pos (by simp; omega), if_pos (by omega), if_pos (by omega), Int.toNat_natCast, e, seal_right_1.eq, Option.bind_some, hc, if_neg (by simp)]
    dsimp only
    rw [s_int i (by omega)]
    exact sr_l0 n m hl hr d (i + 1) k (by omega) (by omega)
theorem sr_is {n : Nat} (hn : 1000000 < n) {sm : List (List Int)} {c : Nat} (hl : sm.length ≤ 1000000) (hr : ∀ r ∈ sm, r.length = c) : slices_ContainsFunc_uint32_uint32_seal_right_1.f n (sm, (((c : Int), ()), ()), ()) = some ((((c : Int), ()), ()), false, ()) := by
  have h := sr_l0 n n hl hr sm.length 0 n (by omega) (by omega)
  rw [show ((0 : Nat) : Int) = 0 from rfl] at h
  rw [slices_ContainsFunc_uint32_uint32_seal_right_1.eq, slices_IndexFunc_uint32_uint32_seal_right_1.eq, h]
  rfl
theorem wright_is {n : Nat} (hn : 1000000 < n) {g : Ge} (hg : rgtP g) {sm : List (List Int)} (hs : SmOk g sm) {i : Nat} (hi : (i : Int) < g.2.1) : seal_right.f n ((g, (i : Int), sm, ()), ()) = some (true, ()) := by
  obtain ⟨e1, c1, c2⟩ := cn_nb hg
  have hgg := hg
  unfold rgtP at hgg
  have hl := hs.len
  rw [seal_right.eq, right_is, decide_eq_true hg, Option.bind_some]
  dsimp only
  rw [if_neg (by decide), if_neg (by simp), if_neg (by simpa using hi), ← e1, wr64 (by omega) (by omega), hl, bne_self_eq_false, Option.bind_some]
  dsimp only
  rw [if_neg (by decide)]
  refine (congrArg (Option.bind · _) (blocks_is n hg)).trans ?_
  rw [Option.bind_some]
  dsimp only
  rw [sr_is hn (by omega) hs.row, Option.bind_some]
  rfl
/-- a seal's head, without the sum; its bytes -/
def hdB (g : Ge) (i : Nat) : List Int := [70, 76, 82, 86] ++ (lays 2 [1, g.1, g.2.1, (i : Int)] ++ lays 4 [g.2.2.1, g.2.2.2.1])
def headS (g : Ge) (i : Nat) (sm : List (List Int)) : List Int := hdB g i ++ lays 4 sm.flatten
def writeS (g : Ge) (i : Nat) (sm : List (List Int)) (col : List Int) : List Int := headS g i sm ++ (le 4 (crcS (headS g i sm)) ++ col)
theorem hdB_len (g : Ge) (i : Nat) : (hdB g i).length = 20 := by
  unfold hdB
  rw [List.length_append, List.length_append, lays_len, lays_len]
  rfl
theorem flat_len {g : Ge} {sm : List (List Int)} (hs : SmOk g sm) : sm.flatten.length = cN g * nbN g := by
  have h : ∀ l : List (List Int), (∀ r ∈ l, r.length = nbN g) → l.flatten.length = l.length * nbN g := by
    intro l
    induction l with
    | nil => intro _; simp
    | cons r l ih =>
      intro h
      rw [List.flatten_cons, List.length_append, ih (fun x hx => h x (List.mem_cons_of_mem _ hx)), h r (List.mem_cons_self ..), List.length_cons, Nat.add_mul, Nat.one_mul, Nat.add_comm]
  rw [h sm hs.row, hs.len]
theorem headS_len {g : Ge} {i : Nat} {sm : List (List Int)} (hs : SmOk g sm) : (headS g i sm).length = hdN g - 4 ∧ 4 ≤ hdN g := by
  have : hdN g = 24 + 4 * (cN g * nbN g) := rfl
  unfold headS
  rw [List.length_append, hdB_len, lays_len, flat_len hs]
  omega
theorem writeS_len {g : Ge} {i : Nat} {sm : List (List Int)} (hs : SmOk g sm) (col : List Int) : (writeS g i sm col).length = hdN g + col.length := by
  obtain ⟨h1, h2⟩ := headS_len (i := i) hs
  unfold writeS
  rw [List.length_append, List.length_append, le_len, h1]
  omega
theorem writeS_by {g : Ge} {i : Nat} {sm : List (List Int)} {col : List Int} (hc : By col) : By (writeS g i sm col) := by
  have h4 : By [70, 76, 82, 86] := fun x hx => by
    rcases List.mem_cons.1 hx with rfl | hx
    · decide
    rcases List.mem_cons.1 hx with rfl | hx
    · decide
    rcases List.mem_cons.1 hx with rfl | hx
    · decide
    rcases List.mem_cons.1 hx with rfl | hx
    · decide
    · cases hx
  exact ((h4.append ((lays_by _ _).append (lays_by _ _))).append (lays_by _ _)).append ((le_by _ _).append hc)
theorem write_l0 (n : Nat) (hn : 1000000 < n) {g : Ge} {sm : List (List Int)} (hs : SmOk g sm) (hl : cN g * nbN g ≤ 1000000) (hl2 : cN g ≤ 1000) (hnb : nbN g ≤ 1000000) (col p : List Int) (hp : p.length = 20) : ∀ (d i k : Nat), i + d = sm.length → d < k → seal_Write.l0 n n k (col, p ++ lays 4 (sm.take i).flatten, sm, (sm.length : Int), (i : Int), ()) = some (col, p ++ lays 4 sm.flatten, ())
  | 0, i, 0, _, h => absurd h (by decide)
  | d + 1, i, 0, _, h => absurd h (by omega)
  | 0, i, k + 1, hi, hk => by
    rw [seal_Write.l0_eq, if_neg (by simp; omega), List.take_of_length_le (by omega)]
  | d + 1, i, k + 1, hi, hk => by
    have ha : i < sm.length := by omega
    have e0 : sm.getD i [] = sm[i] := by rw [List.getD_eq_getElem?_getD, List.getElem?_eq_getElem ha]; rfl
    have hr := hs.row sm[i] (List.getElem_mem ha)
    have hx := hs.num sm[i] (List.getElem_mem ha)
    have e1 : (sm.take i).flatten ++ sm[i] = (sm.take (i + 1)).flatten := by
      rw [List.take_add_one, List.getElem?_eq_getElem ha, List.flatten_append]
      simp only [Option.toList_some, List.flatten_cons, List.flatten_nil, List.append_nil]
    have e2 : (sm.take (i + 1)).flatten.length ≤ sm.flatten.length := by
      have : sm.flatten = (sm.take (i + 1)).flatten ++ (sm.drop (i + 1)).flatten := by rw [← List.flatten_append, List.take_append_drop]
      rw [this, List.length_append]; omega
    rw [flat_len hs, ← e1, List.length_append] at e2
    have hsl := hs.len
    have hla := layu_is hn (l := sm[i]) (s := 4) (by decide) (by omega) (fun x hx' => by have := hx x hx'; omega)
    rw [show ((4 : Nat) : Int) = 4 from rfl] at hla
    rw [seal_Write.l0_eq, if_pos (by simp; omega), if_pos (by omega), if_pos (by omega), Int.toNat_natCast, e0, hla, Option.bind_some]
    dsimp only
    rw [if_pos (lim_of (by rw [List.length_append, lays_len, lays_len, hp]; omega)), List.append_assoc, ← lays_append, e1, s_int i (by omega)]
    exact write_l0 n hn hs hl hl2 hnb col p hp d (i + 1) k (by omega) (by omega)
theorem write_is {n : Nat} (hn : 16777300 < n) {g : Ge} (hg : rgtP g) {sm : List (List Int)} (hs : SmOk g sm) (hl : cN g * nbN g ≤ 100000) {i : Nat} (hi : (i : Int) < g.2.1) {col : List Int} (hc : (col.length : Int) = 8 + g.2.2.1) (hcb : col.length ≤ 1000000) : seal_Write.f n ((g, (i : Int), sm, ()), col, ()) = some (writeS g i sm col, 0, ()) := by
  obtain ⟨e1, c1, c2⟩ := cn_nb hg
  obtain ⟨_, k4⟩ := cnb_le hg
  have hgg := hg
  unfold rgtP at hgg
  have hl2 := hs.len
  have l1 := lay_is (n := n) (by omega) (l := [1, g.1, g.2.1, (i : Int)]) (s := 2) (by decide) (by simp) (fun x hx => by
    rcases List.mem_cons.1 hx with rfl | hx
    · decide
    rcases List.mem_cons.1 hx with rfl | hx
    · omega
    rcases List.mem_cons.1 hx with rfl | hx
    · omega
    rcases List.mem_cons.1 hx with rfl | hx
    · omega
    · cases hx)
  have l2 := lay_is (n := n) (by omega) (l := [g.2.2.1, g.2.2.2.1]) (s := 4) (by decide) (by simp) (fun x hx => by
    rcases List.mem_cons.1 hx with rfl | hx
    · omega
    rcases List.mem_cons.1 hx with rfl | hx
    · omega
    · cases hx)
  rw [show ((2 : Nat) : Int) = 2 from rfl] at l1
  rw [show ((4 : Nat) : Int) = 4 from rfl] at l2
  have hcat := cat_s (n := n) (xs := [[70, 76, 82, 86], lays 2 [1, g.1, g.2.1, (i : Int)], lays 4 [g.2.2.1, g.2.2.2.1]]) (by rw [flat3]; show (hdB g i).length ≤ _; rw [hdB_len]; decide) (by show 3 < n; omega) (by show 3 < _; decide)
  rw [flat3] at hcat
  have hw0 := write_l0 n (by omega) hs (by omega) (by omega) (by omega) col (hdB g i) (hdB_len g i) sm.length 0 n (by omega) (by omega)
  rw [show ((0 : Nat) : Int) = 0 from rfl, show lays 4 (sm.take 0).flatten = [] from rfl, List.append_nil] at hw0
  have hhl := (headS_len (i := i) hs).1
  have hhd : hdN g = 24 + 4 * (cN g * nbN g) := rfl
  have hhb : By (headS g i sm) := by
    have := writeS_by (g := g) (i := i) (sm := sm) (col := []) By.nil
    exact fun x hx => this x (List.mem_append_left _ hx)
  have hcr := crcS_range (headS g i sm)
  rw [seal_Write.eq, wright_is (by omega) hg hs hi, Option.bind_some]
  dsimp only
  rw [if_neg (by decide), long_is n hg, Option.bind_some, hc, bne_self_eq_false, Option.bind_some]
  dsimp only
  rw [if_neg (by decide), l1, Option.bind_some, l2, Option.bind_some]
  refine (congrArg (Option.bind · _) hcat).trans ?_
  rw [Option.bind_some]
  refine (congrArg (Option.bind · _) hw0).trans ?_
  rw [Option.bind_some]
  dsimp only
  have hcrc := crc_is (n := n) hhb (by omega) (by omega)
  refine (congrArg (Option.bind · _) hcrc).trans ?_
  rw [Option.bind_some]
  dsimp only
  rw [wru64 hcr.1 (by omega), put_is (by omega) _ _ (by decide) (by decide), Option.bind_some]
  have hfin := cat_s (n := n) (xs := [headS g i sm, le (Int.toNat 4) (crcS (headS g i sm)), col]) (by rw [flat3]; show (writeS g i sm col).length ≤ _; rw [writeS_len hs]; omega) (by show 3 < n; omega) (by show 3 < _; decide)
  rw [flat3] at hfin
  refine (congrArg (Option.bind · _) hfin).trans ?_
  rw [Option.bind_some]
  rfl
/-! what is written is parsed -/
theorem writeS_gt {g : Ge} (hg : rgtP g) {sm : List (List Int)} {i : Nat} (hi : (i : Int) < g.2.1) (col : List Int) : (writeS g i sm col).take 4 = [70, 76, 82, 86] ∧ gt (writeS g i sm col) 4 2 = 1 ∧ gt (writeS g i sm col) 6 2 = g.1 ∧ gt (writeS g i sm col) 8 2 = g.2.1 ∧ gt (writeS g i sm col) 10 2 = (i : Int) ∧ gt (writeS g i sm col) 12 4 = g.2.2.1 ∧ gt (writeS g i sm col) 16 4 = g.2.2.2.1 := by
  have hgg := hg
  unfold rgtP at hgg
  have e : writeS g i sm col = [70, 76, 82, 86] ++ (lays 2 [1, g.1, g.2.1, (i : Int)] ++ (lays 4 [g.2.2.1, g.2.2.2.1] ++ (lays 4 sm.flatten ++ (le 4 (crcS (headS g i sm)) ++ col)))) := by
    unfold writeS headS hdB
    simp only [List.append_assoc]
  have e2 : writeS g i sm col = ([70, 76, 82, 86] ++ lays 2 [1, g.1, g.2.1, (i : Int)]) ++ (lays 4 [g.2.2.1, g.2.2.2.1] ++ (lays 4 sm.flatten ++ (le 4 (crcS (headS g i sm)) ++ col))) := by
    rw [e, List.append_assoc]
  have hp : ([70, 76, 82, 86] ++ lays 2 [1, g.1, g.2.1, (i : Int)] : List Int).length = 12 := by rw [List.length_append, lays_len]; rfl
  refine ⟨by rw [e]; rfl, ?_, ?_, ?_, ?_, ?_, ?_⟩
  · rw [e]; exact gt_lays (i := 4) (j := 0) (k := 2) rfl (by simp) (show (0 : Int) ≤ 1 by decide) (show (1 : Int) < 65536 by decide)
  · rw [e]; exact gt_lays (i := 4) (j := 1) (k := 2) rfl (by simp) (show 0 ≤ g.1 by omega) (show g.1 < 65536 by omega)
  · rw [e]; exact gt_lays (i := 4) (j := 2) (k := 2) rfl (by simp) (show 0 ≤ g.2.1 by omega) (show g.2.1 < 65536 by omega)
  · rw [e]; exact gt_lays (i := 4) (j := 3) (k := 2) rfl (by simp) (show 0 ≤ (i : Int) by omega) (show (i : Int) < 65536 by omega)
  · rw [e2]; exact gt_lays (i := 12) (j := 0) (k := 4) hp (by simp) (show 0 ≤ g.2.2.1 by omega) (show g.2.2.1 < 4294967296 by omega)
  · rw [e2]; exact gt_lays (i := 12) (j := 1) (k := 4) hp (by simp) (show 0 ≤ g.2.2.2.1 by omega) (show g.2.2.2.1 < 4294967296 by omega)
theorem flat_get {c : Nat} : ∀ (sm : List (List Int)), (∀ r ∈ sm, r.length = c) → ∀ (i j : Nat) (hi : i < sm.length) (hj : j < c), ∃ h : i * c + j < sm.flatten.length, sm.flatten[i * c + j] = (sm[i]).getD j 0
  | [], _, i, j, hi, _ => by simp at hi
  | r :: sm, h, 0, j, hi, hj => by
    have hr := h r (List.mem_cons_self ..)
    have hj' : j < r.length := by omega
    refine ⟨by rw [List.flatten_cons, List.length_append]; omega, ?_⟩
    simp only [List.flatten_cons, Nat.zero_mul, Nat.zero_add, List.getElem_cons_zero]
    rw [List.getElem_append_left hj', List.getD_eq_getElem?_getD, List.getElem?_eq_getElem hj']
    rfl
  | r :: sm, h, i + 1, j, hi, hj => by
    have hr := h r (List.mem_cons_self ..)
    obtain ⟨h1, h2⟩ := flat_get sm (fun x hx => h x (List.mem_cons_of_mem _ hx)) i j (by simpa using hi) hj
    have e : (i + 1) * c + j = r.length + (i * c + j) := by rw [Nat.add_mul, Nat.one_mul, hr]; omega
    refine ⟨by rw [List.flatten_cons, List.length_append]; omega, ?_⟩
    simp only [List.flatten_cons, List.getElem_cons_succ, e]
    rw [List.getElem_append_right (Nat.le_add_right _ _)]
    simp only [Nat.add_sub_cancel_left]
    exact h2
theorem sumT_get (b : List Int) (nb c j : Nat) (h : j < (sumT b nb c).length) : (sumT b nb c)[j] = rowT b nb j nb := by simp [sumT]
theorem rowT_get (b : List Int) (nb i k j : Nat) (h : j < (rowT b nb i k).length) : (rowT b nb i k)[j] = gt b (20 + 4 * (i * nb + j)) 4 := by simp [rowT]
theorem sums_back {g : Ge} (hg : rgtP g) {sm : List (List Int)} (hs : SmOk g sm) (i : Nat) (col : List Int) : sumT (writeS g i sm col) (nbN g) (cN g) = sm := by
  have e : writeS g i sm col = hdB g i ++ (lays 4 sm.flatten ++ (le 4 (crcS (headS g i sm)) ++ col)) := by
    unfold writeS headS
    rw [List.append_assoc]
  apply List.ext_getElem (by rw [sumT_len, hs.len])
  intro j h1 h2
  rw [sumT_get]
  rw [sumT_len] at h1
  have hr := hs.row sm[j] (List.getElem_mem h2)
  have hx := hs.num sm[j] (List.getElem_mem h2)
  apply List.ext_getElem (by rw [rowT_len, hr])
  intro k h3 h4
  rw [rowT_get]
  rw [rowT_len] at h3
  obtain ⟨f1, f2⟩ := flat_get sm hs.row j k h2 h3
  have hv : (sm[j]).getD k 0 = sm[j][k] := getD_eq h4
  have hb := hx sm[j][k] (List.getElem_mem h4)
  rw [e, gt_lays (i := 20) (hdB_len g i) f1 (by rw [f2, hv]; exact hb.1) (by rw [f2, hv]; exact hb.2), f2, hv]
theorem parse_back {g : Ge} (hg : rgtP g) {sm : List (List Int)} (hs : SmOk g sm) {i : Nat} (hi : (i : Int) < g.2.1) {col : List Int} (hc : (col.length : Int) = 8 + g.2.2.1) : parseS (writeS g i sm col) = ((g, (i : Int), sm, ()), col, 0, ()) := by
  obtain ⟨g0, g1, g2, g3, g4, g5, g6⟩ := writeS_gt hg (sm := sm) hi col
  obtain ⟨h1, h2⟩ := headS_len (i := i) hs
  have hwl := writeS_len (i := i) hs col
  have hgB : gB (writeS g i sm col) = g := by
    unfold gB
    rw [g2, g3, g5, g6]
  have hhd : hdN g = 24 + 4 * (cN g * nbN g) := rfl
  have htk : (writeS g i sm col).take (hdN g - 4) = headS g i sm := by
    unfold writeS
    rw [List.take_append_of_le_length (by omega), List.take_of_length_le (by omega)]
  have hcr := crcS_range (headS g i sm)
  have hgc : gt (writeS g i sm col) (hdN g - 4) 4 = crcS (headS g i sm) := gt_mid h1 hcr.1 hcr.2
  have hdr : (writeS g i sm col).drop (hdN g) = col := by
    unfold writeS
    rw [show hdN g = (headS g i sm ++ le 4 (crcS (headS g i sm))).length by rw [List.length_append, le_len, h1]; omega, ← List.append_assoc, List.drop_append_of_le_length (Nat.le_refl _), List.drop_of_length_le (Nat.le_refl _), List.nil_append]
  unfold parseS
  rw [if_pos g0, if_neg (by omega), hgB, g1, g3, g4, g5]
  have hC : (1 : Int) = 1 ∧ rgtP g ∧ (i : Int) < g.2.1 := ⟨rfl, hg, hi⟩
  rw [if_pos hC, if_neg (by omega), htk, hgc, if_neg (by simp), if_neg (by omega), if_neg (by omega), hdr, sums_back hg hs]
end Go.Proofs.YtlioalaehkohlaaDoor.Vm

namespace Go.Proofs.YtlioalaehkohlaaDoor.Vm
open Go Go.RowKit
set_option linter.unusedVariables false
set_option linter.unusedSimpArgs false
set_option linter.unusedSectionVars false
set_option maxRecDepth 10000
def findWo (t : List Sl) (z : Int × Int × Int × Int × Int × List (List Int) × Unit) : Option Se → (List Sl × (Int × Int × Int × Int × Int × List (List Int) × Unit) × Bool × Unit) ⊕ (List Sl × (Int × Int × Int × Int × Int × List (List Int) × Unit) × Unit)
  | some s => .inl (t, (s.1.1, s.1.2.1, s.1.2.2.1, s.1.2.2.2.1, s.2.1, s.2.2.1, ()), true, ())
  | none => .inr (t, z, ())
section
variable {n : Nat} (hn : 16777300 ≤ n) {t : List Sl} (ht : SlOk t) (hl : t.length ≤ 1000000)
include hn ht hl
theorem findo_l0 (m : Nat) (z : Int × Int × Int × Int × Int × List (List Int) × Unit) : ∀ (d i k : Nat), i + d = t.length → d < k → damage_Find_own.l0 n m k (t, z, (), (t.length : Int), (i : Int), ()) = some (findWo t z (findL i (t.drop i)))
  | 0, i, 0, _, h => absurd h (by decide)
  | d + 1, i, 0, _, h => absurd h (by omega)
  | 0, i, k + 1, hi, hk => by
    obtain ⟨z0, z1, z2, z3, z4, z5, ⟨⟩⟩ := z
    rw [damage_Find_own.l0_eq, if_neg (by simp; omega), List.drop_eq_nil_of_le (by omega)]
    rfl
  | d + 1, i, k + 1, hi, hk => by
    have ha : i < t.length := by omega
    obtain ⟨hb, hlb⟩ := ht t[i] (List.getElem_mem ha)
    obtain ⟨r1, r2⟩ := parse_rng hb
    have ih := findo_l0 m z d (i + 1) k (by omega) (by omega)
    obtain ⟨z0, z1, z2, z3, z4, z5, ⟨⟩⟩ := z
    have e1 : wr .i64 ((i : Int) + 1) = ((i + 1 : Nat) : Int) := by rw [wr64 (by omega) (by omega)]; omega
    rw [damage_Find_own.l0_eq, if_pos (by simp; omega), if_pos (by omega), if_pos (by omega), Int.toNat_natCast, e1, ih, List.drop_eq_getElem_cons ha]
    rw [show t.getD i (false, ([], ())) = t[i] from slD ha]
    rw [show findL i (t[i] :: t.drop (i + 1)) = (if foundB t[i] i then some (parseS t[i].2.1).1 else findL (i + 1) (t.drop (i + 1))) from rfl]
    by_cases h1 : t[i].1 = true
    case neg =>
      rw [if_pos (by simpa using h1), if_neg (fun h => h1 h.1)]
    rw [if_neg (by simpa using h1), parse_is (by omega) hb hlb, Option.bind_some]
    dsimp only
    by_cases h2 : (parseS t[i].2.1).2.2.1 = 0
    case neg =>
      rw [if_neg (c := ((parseS t[i].2.1).2.2.1 == 0) = true) (by simpa using h2), Option.bind_some, if_neg (c := foundB t[i] i) (fun h => h2 h.2.1)]
      dsimp only
      rw [if_neg (by decide), e1, ih]
    rw [if_pos (c := ((parseS t[i].2.1).2.2.1 == 0) = true) (by simpa using h2), Option.bind_some]
    dsimp only
    rw [wr64 (x := (parseS t[i].2.1).1.1.1 + (parseS t[i].2.1).1.2.1) (by omega) (by omega)]
    by_cases h3 : (parseS t[i].2.1).1.1.1 + (parseS t[i].2.1).1.2.1 = (i : Int)
    · rw [if_pos (by simpa using h3), if_pos (c := foundB t[i] i) ⟨h1, h2, h3⟩]
      rfl
    · rw [if_neg (by simpa using h3), if_neg (c := foundB t[i] i) (fun h => h3 h.2.2), e1, ih]
theorem findo_is (hlt : t.length < n) : damage_Find_own.f n (t, ()) = some (t, (findA t).1, (findA t).2.1, ()) := by
  rw [damage_Find_own.eq]
  have h := findo_l0 hn ht hl n (0, 0, 0, 0, 0, [], ()) t.length 0 n (by omega) (by omega)
  rw [show ((0 : Nat) : Int) = 0 from rfl, List.drop_zero] at h
  rw [h, Option.bind_some]
  unfold findA
  cases findL 0 t <;> rfl
end
section
variable {n : Nat} (hn : 16777300 ≤ n) {t : List Sl} (ht : SlLen t) {g : Ge} (hg : rgtP g)
include hn ht hg
theorem colso_l0 (m : Nat) : ∀ (d i k : Nat), i + d = cN g → d < k → damage_Columns_own.l0 n m k (t, (g.1, g.2.1, g.2.2.1, g.2.2.2.1, ()), colT t g i, thT t g i, ((cN g : Nat) : Int), (i : Int), ()) = some (t, colT t g (cN g), thT t g (cN g), ())
  | 0, i, 0, _, h => absurd h (by decide)
  | d + 1, i, 0, _, h => absurd h (by omega)
  | 0, i, k + 1, hi, hk => by
    obtain rfl : i = cN g := by omega
    rw [damage_Columns_own.l0_eq, if_neg (by simp)]
  | d + 1, i, k + 1, hi, hk => by
    obtain ⟨_, _, hc⟩ := cn_nb hg
    have ih := colso_l0 m d (i + 1) k (by omega) (by omega)
    have fin : (damage_column.f n (t.getD i zSl, g, (i : Int), ())) = some (colS g (t.getD i zSl) i, ()) := col_is (by omega) hg (slD_len ht i) i
    rw [damage_Columns_own.l0_eq, if_pos (by simp; omega)]
    by_cases h : i < t.length
    · rw [if_pos (by simpa using h), if_pos (by omega), if_pos (by omega), Int.toNat_natCast, Option.bind_some]
      dsimp only
      refine (congrArg (Option.bind · _) fin).trans ?_
      rw [Option.bind_some]
      dsimp only
      rw [if_pos (lim_of (by rw [colT_len]; simp; omega)), if_pos (lim_of (by rw [thT_len]; simp; omega)), not_none, colT_succ, thT_succ, s_int i (by omega)]
      exact ih
    · rw [if_neg (by simpa using h), Option.bind_some]
      dsimp only
      rw [slN h] at fin
      refine (congrArg (Option.bind · _) fin).trans ?_
      rw [Option.bind_some]
      dsimp only
      rw [if_pos (lim_of (by rw [colT_len]; simp; omega)), if_pos (lim_of (by rw [thT_len]; simp; omega)), not_none, ← slN h, colT_succ, thT_succ, s_int i (by omega)]
      exact ih
theorem colso_is : damage_Columns_own.f n (t, g, ()) = some (t, colT t g (cN g), thT t g (cN g), ()) := by
  obtain ⟨e1, h1, h2⟩ := cn_nb hg
  have h := colso_l0 hn ht hg n (cN g) 0 n (by omega) (by omega)
  rw [damage_Columns_own.eq, right_is, decide_eq_true hg, Option.bind_some, if_neg (by decide), ← e1, wr64 (by omega) (by omega)]
  refine (congrArg (Option.bind · _) h).trans ?_
  rw [Option.bind_some]
end
/-- volumes, as slots and as columns -/
def slT (row : List (List Int)) (i : Nat) : List Sl := (row.take i).map fun b => (true, b, ())
def colR (row : List (List Int)) (S : Int) (i : Nat) : List (List Int) := (row.take i).map fun b => colB b S
def okRow (S : Int) (b : List Int) : Prop := (b.length : Int) ≤ S ∧ 0 < b.length
theorem slT_succ (row : List (List Int)) {i : Nat} (h : i < row.length) : slT row i ++ [(true, row[i], ())] = slT row (i + 1) := by
  unfold slT; rw [List.take_add_one, List.getElem?_eq_getElem h, List.map_append]; rfl
theorem colR_succ (row : List (List Int)) (S : Int) {i : Nat} (h : i < row.length) : colR row S i ++ [colB row[i] S] = colR row S (i + 1) := by
  unfold colR; rw [List.take_add_one, List.getElem?_eq_getElem h, List.map_append]; rfl
theorem slT_len (row : List (List Int)) {i : Nat} (h : i ≤ row.length) : (slT row i).length = i := by unfold slT; rw [List.length_map, List.length_take]; omega
theorem colR_len (row : List (List Int)) (S : Int) {i : Nat} (h : i ≤ row.length) : (colR row S i).length = i := by unfold colR; rw [List.length_map, List.length_take]; omega
def erS (S : Int) : List (List Int) → Option Int
  | [] => none
  | b :: r => if (b.length : Int) > S then some 2 else if b.length = 0 then some 20 else erS S r
theorem erS_none {S : Int} : ∀ {l : List (List Int)}, erS S l = none → ∀ b ∈ l, okRow S b
  | [], _, b, hb => by cases hb
  | c :: r, h, b, hb => by
    unfold erS at h
    split at h
    · cases h
    · split at h
      · cases h
      · rcases List.mem_cons.1 hb with rfl | hb
        · exact ⟨by omega, by omega⟩
        · exact erS_none h b hb
theorem erS_some {S e : Int} : ∀ {l : List (List Int)}, erS S l = some e → e ≠ 0
  | [], h => by cases h
  | c :: r, h => by
    unfold erS at h
    split at h
    · cases h; decide
    · split at h
      · cases h; decide
      · exact erS_some h
abbrev SetW := (Int × (Int × Int × Int × Int × Unit) × List Sl × List (List Int) × Unit) ⊕ (Unit × Int × Unit)
def setW (row : List (List Int)) (K S g0 g1 g2 g3 : Int) : Option Int → SetW
  | some e => Sum.inr ((), e, ())
  | none => Sum.inl (K, (g0, g1, g2, g3, ()), slT row row.length, colR row S row.length, ())
theorem set_l0 (n m : Nat) (hn : 1000 < n) {row : List (List Int)} (hl : row.length ≤ 1000) (K : Int) {S : Int} (h5 : 5 ≤ S) (hS : S ≤ 16777216) (g0 g1 g2 g3 : Int) : ∀ (d i k : Nat), i + d = row.length → d < k →
    damage_Set.l0 n m k (K, S, (g0, g1, g2, g3, ()), slT row i, colR row S i, row, (row.length : Int), (i : Int), ()) = some (setW row K S g0 g1 g2 g3 (erS S (row.drop i)))
  | 0, i, 0, _, h => absurd h (by decide)
  | d + 1, i, 0, _, h => absurd h (by omega)
  | 0, i, k + 1, hi, hk => by
    obtain rfl : i = row.length := by omega
    rw [damage_Set.l0_eq, if_neg (by simp), List.drop_length]
    rfl
  | d + 1, i, k + 1, hi, hk => by
    have ha : i < row.length := by omega
    have e0 : row.getD i [] = row[i] := by rw [List.getD_eq_getElem?_getD, List.getElem?_eq_getElem ha]; rfl
    rw [damage_Set.l0_eq, if_pos (by simp; omega), if_pos (by omega), if_pos (by omega), Int.toNat_natCast, e0, column_is hn h5 hS, Option.bind_some, List.drop_eq_getElem_cons ha]
    rw [show erS S (row[i] :: row.drop (i + 1)) = (if (row[i].length : Int) > S then some 2 else if row[i].length = 0 then some 20 else erS S (row.drop (i + 1))) from rfl]
    by_cases h1 : (row[i].length : Int) > S
    · rw [if_pos h1, if_pos h1]
      rfl
    rw [if_neg h1, if_neg h1]
    dsimp only
    rw [if_neg (by decide)]
    by_cases h2 : row[i].length = 0
    · rw [if_pos (c := ((row[i].length : Int) == 0) = true) (by simp; exact List.eq_nil_of_length_eq_zero h2), if_pos h2]
      rfl
    rw [if_neg (c := ((row[i].length : Int) == 0) = true) (by simp; intro h; rw [h] at h2; exact h2 rfl), if_neg h2]
    rw [if_pos (lim_of (by rw [colR_len _ _ (by omega)]; show _ + ((1 : Nat) : Int) ≤ _; omega)), clone_is n (by omega), Option.bind_some]
    dsimp only
    rw [if_pos (lim_of (by rw [slT_len _ (by omega)]; show _ + ((1 : Nat) : Int) ≤ _; omega)), slT_succ row ha]
    rw [show colR row S i ++ [(some (colB row[i] S)).getD []] = colR row S (i + 1) from colR_succ row S ha, s_int i (by omega)]
    exact set_l0 n m hn hl K h5 hS g0 g1 g2 g3 d (i + 1) k (by omega) (by omega)
/-- sums of all columns' blocks -/
def smS (g : Ge) (cols : List (List Int)) : List (List Int) := cols.map fun c => crcs c (bS g) (nbN g)
theorem smS_ok {g : Ge} {cols : List (List Int)} (h : cols.length = cN g) : SmOk g (smS g cols) := ⟨by unfold smS; rw [List.length_map, h], fun r hr => by
  obtain ⟨c, _, rfl⟩ := List.mem_map.1 hr
  exact crcs_len _ _ _, fun r hr x hx => by
  obtain ⟨c, _, rfl⟩ := List.mem_map.1 hr
  obtain ⟨k, _, rfl⟩ := List.mem_map.1 (show x ∈ (List.range _).map _ from hx)
  exact crcS_range _⟩
theorem sums_l0' {n : Nat} (hn : 16777300 ≤ n) {g : Ge} (hg : rgtP g) {cols : List (List Int)} (hl : cols.length ≤ 1000) (hb : ∀ c ∈ cols, By c ∧ (c.length : Int) = 8 + g.2.2.1) : ∀ (d i k : Nat), i + d = cols.length → d < k → seal_Sums.l0 n n k ((g.1, g.2.1, g.2.2.1, g.2.2.2.1, ()), smS g (cols.take i), cols, (cols.length : Int), (i : Int), ()) = some (smS g cols, ())
  | 0, i, 0, _, h => absurd h (by decide)
  | d + 1, i, 0, _, h => absurd h (by omega)
  | 0, i, k + 1, hi, hk => by
    rw [seal_Sums.l0_eq, if_neg (by simp; omega), List.take_of_length_le (by omega)]
  | d + 1, i, k + 1, hi, hk => by
    have ha : i < cols.length := by omega
    have e0 : cols.getD i [] = cols[i] := by rw [List.getD_eq_getElem?_getD, List.getElem?_eq_getElem ha]; rfl
    obtain ⟨b1, b2⟩ := hb cols[i] (List.getElem_mem ha)
    have e : smS g (cols.take i) ++ [crcs cols[i] (bS g) (nbN g)] = smS g (cols.take (i + 1)) := by
      unfold smS; rw [List.take_add_one, List.getElem?_eq_getElem ha, List.map_append]; rfl
    rw [seal_Sums.l0_eq, if_pos (by simp; omega), if_pos (by omega), if_pos (by omega), Int.toNat_natCast, e0, blocksum_is hg b1 b2 hn, Option.bind_some]
    dsimp only
    rw [if_pos (lim_of (by unfold smS; rw [List.length_map, List.length_take]; show _ + ((1 : Nat) : Int) ≤ _; omega)), e, s_int i (by omega)]
    exact sums_l0' hn hg hl hb d (i + 1) k (by omega) (by omega)
theorem sums_is' {n : Nat} (hn : 16777300 ≤ n) {g : Ge} (hg : rgtP g) {cols : List (List Int)} (hl : cols.length ≤ 1000) (hb : ∀ c ∈ cols, By c ∧ (c.length : Int) = 8 + g.2.2.1) : seal_Sums.f n (cols, g, ()) = some (smS g cols, ()) := by
  have h := sums_l0' hn hg hl hb cols.length 0 n (by omega) (by omega)
  rw [show ((0 : Nat) : Int) = 0 from rfl, show smS g (cols.take 0) = [] from rfl] at h
  rw [seal_Sums.eq, right_is, decide_eq_true hg, Option.bind_some, if_neg (by decide)]
  refine (congrArg (Option.bind · _) h).trans ?_
  rw [Option.bind_some]
/-- the slots of recovery -/
def rcT (g : Ge) (sm more : List (List Int)) (i : Nat) : List Sl := (List.range i).map fun j => (true, writeS g j sm (more.getD j []), ())
theorem rcT_len (g : Ge) (sm more : List (List Int)) (i : Nat) : (rcT g sm more i).length = i := by simp [rcT]
theorem rcT_succ (g : Ge) (sm more : List (List Int)) (i : Nat) : rcT g sm more i ++ [(true, writeS g i sm (more.getD i []), ())] = rcT g sm more (i + 1) := by
  unfold rcT; rw [List.range_succ, List.map_append]; rfl
theorem set_l3 {n : Nat} (hn : 16777300 < n) {g : Ge} (hg : rgtP g) {sm : List (List Int)} (hs : SmOk g sm) (hl : cN g * nbN g ≤ 100000) {more : List (List Int)} (hm : (more.length : Int) = g.2.1) (hb : ∀ c ∈ more, (c.length : Int) = 8 + g.2.2.1) (hS : g.2.2.1 ≤ 100000) {p : List Sl} (hp : p.length ≤ 1000) : ∀ (d i k : Nat), i + d = more.length → d < k →
    damage_Set.l3 n n k ((g.1, g.2.1, g.2.2.1, g.2.2.2.1, ()), p ++ rcT g sm more i, sm, more, (more.length : Int), (i : Int), ()) = some (p ++ rcT g sm more more.length, ())
  | 0, i, 0, _, h => absurd h (by decide)
  | d + 1, i, 0, _, h => absurd h (by omega)
  | 0, i, k + 1, hi, hk => by
    obtain rfl : i = more.length := by omega
    rw [damage_Set.l3_eq, if_neg (by simp)]
  | d + 1, i, k + 1, hi, hk => by
    have hgg := hg
    unfold rgtP at hgg
    have ha : i < more.length := by omega
    have e0 : more.getD i [] = more[i] := by rw [List.getD_eq_getElem?_getD, List.getElem?_eq_getElem ha]; rfl
    have b1 := hb more[i] (List.getElem_mem ha)
    have hw := write_is (n := n) hn hg hs hl (i := i) (by omega) (col := more.getD i []) (by rw [e0]; exact b1) (by rw [e0]; omega)
    rw [damage_Set.l3_eq, if_pos (by simp; omega), if_pos (by omega), if_pos (by omega), Int.toNat_natCast]
    refine (congrArg (Option.bind · _) hw).trans ?_
    rw [Option.bind_some]
    dsimp only
    rw [if_pos (lim_of (by rw [List.length_append, rcT_len]; show _ + ((1 : Nat) : Int) ≤ _; omega)), List.append_assoc, rcT_succ, s_int i (by omega)]
    exact set_l3 hn hg hs hl hm hb hS hp d (i + 1) k (by omega) (by omega)
theorem of_bytess : ∀ cs : List (List Int), (∀ c ∈ cs, By c) → ∃ M, cs = Al.bss M
  | [], _ => ⟨[], rfl⟩
  | c :: cs, h => by
    obtain ⟨M, rfl⟩ := of_bytess cs (fun x hx => h x (List.mem_cons_of_mem _ hx))
    obtain ⟨p, rfl⟩ := Al.of_bytes c (h c (List.mem_cons_self ..))
    exact ⟨p :: M, rfl⟩
/-- a whole table -/
structure Whole (row : List (List Int)) (g : Ge) (t : List Sl) (all : List (List Int)) : Prop where
  len : t.length = cN g
  alen : all.length = cN g
  right : rgtP g
  n1 : g.1 = (row.length : Int)
  by' : ∀ c ∈ all, By c
  wid : ∀ c ∈ all, (c.length : Int) = 8 + g.2.2.1
  vol : ∀ i, i < row.length → ∃ b, t.getD i zSl = (true, b, ()) ∧ By b ∧ 0 < b.length ∧ (b.length : Int) ≤ g.2.2.1 ∧ all.getD i [] = colB b g.2.2.1
  rec' : ∀ i, row.length ≤ i → i < cN g → t.getD i zSl = (true, writeS g (i - row.length) (smS g all) (all.getD i []), ())
  word : ∀ i : Nat, (i : Int) < 8 + g.2.2.1 → ∃ w : List Al.G, all.map (fun c => c.getD i 0) = Al.bs w ∧ Al.IsWord w row.length
theorem crow_par (M : List (List Al.G)) {c w i : Nat} (h : i < w) : Al.crow (Al.par M c w) i = Al.more (Al.crow M i) c := by
  apply Al.ext_co
  · rw [Al.crow_length, Al.par, Al.parm_length, Al.more_length]
  · intro j hj
    rw [Al.crow_length, Al.par, Al.parm_length] at hj
    have h1 : Al.co (Al.crow (Al.par M c w) i) j = Al.co ((Al.par M c w).getD j []) i := by
      have hj' : j < (Al.par M c w).length := by rw [Al.par, Al.parm_length]; exact hj
      rw [Al.co_lt (by rw [Al.crow_length]; exact hj'), List.getD_eq_getElem?_getD, List.getElem?_eq_getElem hj']
      simp [Al.crow]
    rw [h1, Al.par, Al.parm_getD M hj, if_neg (by omega), Al.co_tab, if_pos h]
theorem getD_left {α : Type} (l m : List α) (z : α) {i : Nat} (h : i < l.length) : (l ++ m).getD i z = l[i] := by
  rw [List.getD_eq_getElem?_getD, List.getElem?_append_left h, List.getElem?_eq_getElem h]; rfl
theorem getD_right {α : Type} (l m : List α) (z : α) {i : Nat} (h : l.length ≤ i) : (l ++ m).getD i z = m.getD (i - l.length) z := by
  rw [List.getD_eq_getElem?_getD, List.getElem?_append_right h, List.getD_eq_getElem?_getD]
theorem slT_get (row : List (List Int)) {i : Nat} (h : i < row.length) (h' : i < (slT row row.length).length) : (slT row row.length)[i] = (true, row[i], ()) := by simp [slT]
theorem colR_get (row : List (List Int)) (S : Int) {i : Nat} (h : i < row.length) (h' : i < (colR row S row.length).length) : (colR row S row.length)[i] = colB row[i] S := by simp [colR]
theorem rcT_get (g : Ge) (sm more : List (List Int)) (k : Nat) {i : Nat} (h : i < k) : (rcT g sm more k).getD i zSl = (true, writeS g i sm (more.getD i []), ()) := by
  have h' : i < (rcT g sm more k).length := by rw [rcT_len]; exact h
  rw [List.getD_eq_getElem?_getD, List.getElem?_eq_getElem h']
  simp [rcT]
theorem map_bss (M : List (List Al.G)) (i : Nat) : (Al.bss M).map (fun c => c.getD i 0) = Al.bs (Al.crow M i) := by
  unfold Al.bss Al.crow Al.bs
  rw [List.map_map, List.map_map]
  refine List.map_congr_left (fun p _ => ?_)
  exact Al.rd_bsN p i
theorem whole_is {row : List (List Int)} {k : Nat} {S B : Int} {M : List (List Al.G)} (hb : ∀ b ∈ row, By b) (hok : ∀ b ∈ row, okRow S b) (hg : rgtP ((row.length : Int), (k : Int), S, B, ())) (hM : colR row S row.length = Al.bss M) (hML : M.length = row.length) (hW : Al.Wd M (8 + S).toNat)
    (hal : (colR row S row.length ++ Al.bss (Al.par M k (8 + S).toNat)).length = cN ((row.length : Int), (k : Int), S, B, ())) (hab : ∀ c ∈ colR row S row.length ++ Al.bss (Al.par M k (8 + S).toNat), By c ∧ (c.length : Int) = 8 + S) :
    Whole row ((row.length : Int), (k : Int), S, B, ()) (slT row row.length ++ rcT ((row.length : Int), (k : Int), S, B, ()) (smS ((row.length : Int), (k : Int), S, B, ()) (colR row S row.length ++ Al.bss (Al.par M k (8 + S).toNat))) (Al.bss (Al.par M k (8 + S).toNat)) k) (colR row S row.length ++ Al.bss (Al.par M k (8 + S).toNat)) := by
  have hgg := hg
  unfold rgtP at hgg
  dsimp only at hgg
  have hpl : (Al.bss (Al.par M k (8 + S).toNat)).length = k := by rw [Al.bss_length, Al.par, Al.parm_length]
  have hcl := colR_len row S (Nat.le_refl row.length)
  have hsl := slT_len row (Nat.le_refl row.length)
  have hc : cN ((row.length : Int), (k : Int), S, B, ()) = row.length + k := by
    rw [← hal, List.length_append, hcl, hpl]
  exact {
    len := by rw [List.length_append, hsl, rcT_len, hc]
    alen := hal
    right := hg
    n1 := rfl
    by' := fun c h => (hab c h).1
    wid := fun c h => (hab c h).2
    vol := fun i hi => by
      have h1 := hok row[i] (List.getElem_mem hi)
      refine ⟨row[i], ?_, hb _ (List.getElem_mem hi), h1.2, h1.1, ?_⟩
      · rw [getD_left _ _ _ (by rw [hsl]; exact hi), slT_get row hi]
      · rw [getD_left _ _ _ (by rw [hcl]; exact hi), colR_get row S hi]
    rec' := fun i h1 h2 => by
      rw [getD_right _ _ _ (by rw [hsl]; exact h1), getD_right (colR row S row.length) _ _ (by rw [hcl]; exact h1), hsl, hcl, rcT_get _ _ _ _ (by omega)]
    word := fun i hi => by
      refine ⟨Al.word (Al.crow M i) k, ?_, ?_⟩
      · rw [hM, List.map_append, map_bss, map_bss, crow_par (M := M) (c := k) (w := (8 + S).toNat) (i := i) (by dsimp only at hi; omega), ← Al.bs_append, Al.word_eq _ _ (by rw [Al.crow_length]; omega)]
      · have := Al.word_isWord (Al.crow M i) k (by rw [Al.crow_length]; omega)
        rwa [Al.crow_length, hML] at this }
theorem set_es {row : List (List Int)} (hb : ∀ b ∈ row, By b) (hl : row.length ≤ 100) (K S B : Int) (hKS : K ≤ 4 ∧ S ≤ 40) :
    (∃ e : Int, e ≠ 0 ∧ Al.Es (fun n _ _ => damage_Set.f n (row, K, S, B, ())) ([], e, ())) ∨
    ∃ t all, Whole row ((row.length : Int), K, S, B, ()) t all ∧ Al.Es (fun n _ _ => damage_Set.f n (row, K, S, B, ())) (t, 0, ()) := by
  by_cases hg : rgtP ((row.length : Int), K, S, B, ())
  case neg =>
    refine .inl ⟨1, by decide, Al.Es.of 0 (fun n _ => ?_)⟩
    rw [damage_Set.eq, right_is, decide_eq_false hg, Option.bind_some, if_pos (by decide)]
  have hgg := hg
  unfold rgtP at hgg
  dsimp only at hgg
  have h0 : ∀ n, 1001 ≤ n → damage_Set.l0 n n n (K, S, ((row.length : Int), K, S, B, ()), [], [], row, (row.length : Int), 0, ()) = some (setW row K S (row.length : Int) K S B (erS S row)) := fun n hn => by
    have h := set_l0 n n (by omega) (row := row) (by omega) K (S := S) (by omega) (by omega) (row.length : Int) K S B row.length 0 n (by omega) (by omega)
    rwa [show ((0 : Nat) : Int) = 0 from rfl, show slT row 0 = [] from rfl, show colR row S 0 = [] from rfl, List.drop_zero] at h
  have hpre : ∀ {r}, Al.Es (fun n _ _ => Sum.elim (fun z19 => (stripe_Parity.f n (z19.2.2.2.1, z19.1, ())).bind (fun y20 => (if ((List.length z19.2.2.2.1 : Nat) : Int) + ((List.length y20.1 : Nat) : Int) ≤ lim then (seal_Sums.f n ((z19.2.2.2.1 ++ y20.1), z19.2.1, ())).bind (fun y21 => (damage_Set.l3 n n n ((z19.2.1.1, z19.2.1.2.1, z19.2.1.2.2.1, z19.2.1.2.2.2.1, ()), z19.2.2.1, y21.1, y20.1, ((List.length y20.1 : Nat) : Int), (0 : Int), ())).bind (fun y23 => (some (y23.1, (0 : Int), ())))) else none))) (fun z24 => (some (([] : List Sl), z24.2.1, ()))) (setW row K S (row.length : Int) K S B (erS S row))) r → Al.Es (fun n _ _ => damage_Set.f n (row, K, S, B, ())) r := fun {r} h => by
    refine Al.Es.congr (fun n _ _ => damage_Set.eq n _ _ _ _) (Al.Es.bind (Al.Es.of 0 (fun n _ => right_is n _)) ?_)
    dsimp only
    rw [decide_eq_true hg]
    exact Al.Es.neg (by decide) (Al.Es.bind (Al.Es.of 1001 h0) h)
  cases hr : erS S row with
  | some e =>
    refine .inl ⟨e, erS_some hr, hpre ?_⟩
    rw [hr]
    exact Al.Es.now _
  | none =>
    have hok := erS_none hr
    rw [hr] at hpre
    have hcb : ∀ c ∈ colR row S row.length, By c ∧ (c.length : Int) = 8 + S := fun c hc => by
      obtain ⟨b, hb', rfl⟩ := List.mem_map.1 (show c ∈ (row.take row.length).map _ from hc)
      rw [List.take_length] at hb'
      exact ⟨colB_by S (hb b hb'), colB_len (hok b hb').1⟩
    obtain ⟨M, hM⟩ := of_bytess _ (fun c hc => (hcb c hc).1)
    have hML : M.length = row.length := by
      have := congrArg List.length hM
      rw [colR_len _ _ (Nat.le_refl _), Al.bss_length] at this
      exact this.symm
    have hW : Al.Wd M (8 + S).toNat := fun c hc => by
      have h1 : Al.bs c ∈ colR row S row.length := by rw [hM]; exact List.mem_map_of_mem hc
      have h2 := (hcb _ h1).2
      rw [Al.bs_length] at h2
      omega
    obtain ⟨k, rfl⟩ := Int.eq_ofNat_of_zero_le (show 0 ≤ K by omega)
    have hpar := Al.parity_es M k (8 + S).toNat (by omega) (by omega) hW (by omega)
    rw [← hM] at hpar
    have hrg := hg
    obtain ⟨e1, c1, c2⟩ := cn_nb hg
    replace e1 : ((cN ((row.length : Int), (k : Int), S, B, ()) : Nat) : Int) = (row.length : Int) + (k : Int) := e1
    have hpl : (Al.bss (Al.par M k (8 + S).toNat)).length = k := by rw [Al.bss_length, Al.par, Al.parm_length]
    have hpw : ∀ c ∈ Al.bss (Al.par M k (8 + S).toNat), By c ∧ (c.length : Int) = 8 + S := fun c hc => by
      obtain ⟨p, hp, rfl⟩ := List.mem_map.1 (show c ∈ List.map _ _ from hc)
      refine ⟨Al.by_bs p, ?_⟩
      obtain ⟨j, _, rfl⟩ := List.mem_map.1 (show p ∈ (List.range k).map _ from hp)
      rw [Al.bs_length, Al.tab_length, if_neg (by omega)]
      omega
    have hab : ∀ c ∈ colR row S row.length ++ Al.bss (Al.par M k (8 + S).toNat), By c ∧ (c.length : Int) = 8 + S := fun c hc => by
      rcases List.mem_append.1 hc with hc | hc
      · exact hcb c hc
      · exact hpw c hc
    have hal : (colR row S row.length ++ Al.bss (Al.par M k (8 + S).toNat)).length = cN ((row.length : Int), (k : Int), S, B, ()) := by
      rw [List.length_append, colR_len _ _ (Nat.le_refl _), hpl]; omega
    have hnb : cN ((row.length : Int), (k : Int), S, B, ()) * nbN ((row.length : Int), (k : Int), S, B, ()) ≤ 100000 := by
      obtain ⟨e2, n1, n2⟩ := nb_pos hg
      have h3 : (8 + S + B - 1) / B < 49 := by
        apply Int.ediv_lt_of_lt_mul (by omega)
        have : 49 * 1 ≤ 49 * B := Int.mul_le_mul_of_nonneg_left (by omega) (by decide)
        omega
      have h4 : nbN ((row.length : Int), (k : Int), S, B, ()) ≤ 49 := by
        have : ((nbN ((row.length : Int), (k : Int), S, B, ()) : Nat) : Int) = (8 + S + B - 1) / B := e2
        omega
      exact Nat.le_trans (Nat.mul_le_mul c2 h4) (by decide)
    refine .inr ⟨slT row row.length ++ rcT ((row.length : Int), (k : Int), S, B, ()) (smS ((row.length : Int), (k : Int), S, B, ()) (colR row S row.length ++ Al.bss (Al.par M k (8 + S).toNat))) (Al.bss (Al.par M k (8 + S).toNat)) k, colR row S row.length ++ Al.bss (Al.par M k (8 + S).toNat), ?_, hpre ?_⟩
    · exact whole_is hb hok hg hM hML hW hal hab
    · show Al.Es (fun n _ _ => (stripe_Parity.f n (colR row S row.length, (k : Int), ())).bind _) _
      refine Al.Es.bind hpar (Al.Es.pos (lim_of (by rw [colR_len _ _ (Nat.le_refl _), hpl]; omega)) ?_)
      dsimp only
      refine Al.Es.bind (Al.Es.of 16777300 (fun n hn => sums_is' hn hg (by omega) hab)) ?_
      dsimp only
      rw [hpl]
      have hl3 : ∀ n, 16777301 ≤ n → damage_Set.l3 n n n (((row.length : Int), (k : Int), S, B, ()), slT row row.length, (smS ((row.length : Int), (k : Int), S, B, ()) (colR row S row.length ++ Al.bss (Al.par M k (8 + S).toNat))), (Al.bss (Al.par M k (8 + S).toNat)), (k : Int), 0, ()) = some (slT row row.length ++ rcT ((row.length : Int), (k : Int), S, B, ()) (smS ((row.length : Int), (k : Int), S, B, ()) (colR row S row.length ++ Al.bss (Al.par M k (8 + S).toNat))) (Al.bss (Al.par M k (8 + S).toNat)) k, ()) := fun n hn => by
        have h := set_l3 (n := n) (by omega) hg (smS_ok hal) hnb (more := (Al.bss (Al.par M k (8 + S).toNat))) (by rw [hpl]) (fun c hc => (hpw c hc).2) (show S ≤ 100000 by omega) (p := slT row row.length) (by rw [slT_len _ (Nat.le_refl _)]; omega) k 0 n (by omega) (by omega)
        rw [hpl, show rcT ((row.length : Int), (k : Int), S, B, ()) (smS ((row.length : Int), (k : Int), S, B, ()) (colR row S row.length ++ Al.bss (Al.par M k (8 + S).toNat))) (Al.bss (Al.par M k (8 + S).toNat)) 0 = [] from rfl, List.append_nil] at h
        exact h
      exact Al.Es.bind (Al.Es.of 16777301 hl3) (Al.Es.now _)
end Go.Proofs.YtlioalaehkohlaaDoor.Vm

namespace Go.Proofs.YtlioalaehkohlaaDoor.Vm
open Go Go.RowKit
set_option linter.unusedVariables false
set_option linter.unusedSimpArgs false
set_option linter.unusedSectionVars false
set_option maxRecDepth 10000
theorem write_drop {g : Ge} {sm : List (List Int)} (hs : SmOk g sm) (i : Nat) (col : List Int) : (writeS g i sm col).drop (hdN g) = col := by
  obtain ⟨h1, h2⟩ := headS_len (i := i) hs
  unfold writeS
  rw [show hdN g = (headS g i sm ++ le 4 (crcS (headS g i sm))).length by rw [List.length_append, le_len, h1]; omega, ← List.append_assoc, List.drop_append_of_le_length (Nat.le_refl _), List.drop_of_length_le (Nat.le_refl _), List.nil_append]
theorem allD {α : Type} {l : List α} {z : α} {p : α → Prop} (h : ∀ x ∈ l, p x) {i : Nat} (hi : i < l.length) : p (l.getD i z) := by
  rw [List.getD_eq_getElem?_getD, List.getElem?_eq_getElem hi]
  exact h _ (List.getElem_mem hi)
section
variable {row : List (List Int)} {g : Ge} {t : List Sl} {all : List (List Int)} (W : Whole row g t all)
include W
theorem Whole.row_le : row.length ≤ cN g := by
  obtain ⟨e1, _, _⟩ := cn_nb W.right
  have h := W.right
  unfold rgtP at h
  have := W.n1
  omega
theorem Whole.col {i : Nat} (hi : i < cN g) : colS g (t.getD i zSl) i = some (all.getD i []) := by
  have n1 := W.n1
  by_cases h : i < row.length
  · obtain ⟨b, h1, h2, h3, h4, h5⟩ := W.vol i h
    rw [h1, h5]
    unfold colS
    rw [if_pos rfl, if_neg (by omega), if_pos (show 1 ≤ b.length by omega), if_pos (show (b.length : Int) ≤ g.2.2.1 from h4)]
  · rw [W.rec' i (by omega) hi]
    have hw := allD (z := []) W.wid (i := i) (by rw [W.alen]; exact hi)
    unfold colS
    rw [if_pos rfl, if_pos (by omega), if_pos (by show ((writeS _ _ _ _).length : Int) = _; rw [writeS_len (smS_ok W.alen)]; omega)]
    exact congrArg some (write_drop (smS_ok W.alen) _ _)
theorem Whole.cols : colT t g (cN g) = all := by
  apply List.ext_getElem (by rw [colT_len, W.alen])
  intro j h1 h2
  rw [colT_len] at h1
  have := Whole.col W h1
  simp only [colT, List.getElem_map, List.getElem_range]
  rw [this, Option.getD_some, List.getD_eq_getElem?_getD, List.getElem?_eq_getElem h2]
  rfl
theorem Whole.ths : thT t g (cN g) = List.replicate (cN g) true := by
  rw [List.eq_replicate_iff]
  refine ⟨thT_len _ _ _, fun x hx => ?_⟩
  obtain ⟨j, hj, rfl⟩ := List.mem_map.1 (show x ∈ (List.range _).map _ from hx)
  rw [Whole.col W (List.mem_range.1 hj)]
  rfl
theorem Whole.isK {i k : Nat} (hi : i < cN g) (hk : k < nbN g) : isK all (smS g all) g i k = true := by
  have ha : i < all.length := by rw [W.alen]; exact hi
  have hw := allD (z := []) W.wid ha
  have hs : (smS g all).getD i [] = crcs (all.getD i []) (bS g) (nbN g) := by
    unfold smS
    rw [List.getD_eq_getElem?_getD, List.getElem?_map, List.getElem?_eq_getElem ha, List.getD_eq_getElem?_getD, List.getElem?_eq_getElem ha]
    rfl
  unfold Vm.isK
  rw [decide_eq_true hw, hs, crcs_len, decide_eq_true hk, crcs_get _ _ _ hk, decide_eq_true (show i < (smS g all).length by unfold smS; rw [List.length_map]; exact ha)]
  simp
theorem Whole.known : ∀ r ∈ knT all (smS g all) g all.length, r = List.replicate (nbN g) true := by
  intro r hr
  obtain ⟨j, hj, rfl⟩ := List.mem_map.1 (show r ∈ (List.range _).map _ from hr)
  rw [List.eq_replicate_iff]
  refine ⟨rowK_len _ _ _ _ _, fun x hx => ?_⟩
  obtain ⟨k, hk, rfl⟩ := List.mem_map.1 (show x ∈ (List.range _).map _ from hx)
  exact Whole.isK W (by rw [← W.alen]; exact List.mem_range.1 hj) (List.mem_range.1 hk)
end
theorem cnt_zero {c : Nat} : ∀ {l : List (List Bool)}, (∀ r ∈ l, r = List.replicate c true) → ∀ k, k < c → cnt l k = 0
  | [], _, k, _ => rfl
  | r :: l, h, k, hk => by
    unfold cnt
    rw [cnt_zero (fun x hx => h x (List.mem_cons_of_mem _ hx)) k hk, h r (List.mem_cons_self ..)]
    unfold unk
    rw [List.getD_eq_getElem?_getD, List.getElem?_replicate, if_pos hk]
    rfl
theorem wl_zero {l : List (List Bool)} {c : Nat} (h : ∀ k, k < c → cnt l k = 0) : ∀ d k, k + d ≤ c → wl l d k 0 = 0
  | 0, _, _ => rfl
  | d + 1, k, hk => by
    unfold wl
    rw [h k (by omega)]
    exact wl_zero h d (k + 1) (by omega)
theorem worst_zero {c : Nat} {l : List (List Bool)} (h : ∀ r ∈ l, r = List.replicate c true) : worstS l = 0 :=
  wl_zero (cnt_zero h) _ 0 (by
    have := wlen_le (X := c) l 0 (fun r hr => by rw [h r hr, List.length_replicate]; exact Nat.le_refl _) (Nat.zero_le _)
    omega)
/-- a table with slots that are gone -/
def tabG (t : List Sl) (gone : List Bool) (i : Nat) : List Sl := (List.range t.length).map fun j => if j < i ∧ gone.getD j false = true then (false, (t.getD j zSl).2) else t.getD j zSl
theorem tabG_len (t : List Sl) (gone : List Bool) (i : Nat) : (tabG t gone i).length = t.length := by simp [tabG]
theorem tabG_get (t : List Sl) (gone : List Bool) (i : Nat) {j : Nat} (h : j < t.length) : (tabG t gone i).getD j zSl = if j < i ∧ gone.getD j false = true then (false, (t.getD j zSl).2) else t.getD j zSl := by
  have h' : j < (tabG t gone i).length := by rw [tabG_len]; exact h
  rw [List.getD_eq_getElem?_getD, List.getElem?_eq_getElem h']
  simp [tabG]
theorem sl_ext {A B : List Sl} (hl : A.length = B.length) (h : ∀ j, j < A.length → A.getD j zSl = B.getD j zSl) : A = B := by
  apply List.ext_getElem hl
  intro j h1 h2
  have := h j h1
  rwa [slD h1, slD h2] at this
theorem tabG_zero (t : List Sl) (gone : List Bool) : tabG t gone 0 = t := by
  apply sl_ext (tabG_len _ _ _)
  intro j hj
  rw [tabG_len] at hj
  rw [tabG_get _ _ _ hj, if_neg (by omega)]
theorem tabG_set (t : List Sl) (gone : List Bool) {i : Nat} (hi : i < t.length) (hg : gone.getD i false = true) : List.set (tabG t gone i) i (false, ((tabG t gone i).getD i zSl).2) = tabG t gone (i + 1) := by
  apply sl_ext (by rw [List.length_set, tabG_len, tabG_len])
  intro j hj
  rw [List.length_set, tabG_len] at hj
  rw [tabG_get _ _ (i + 1) hj]
  by_cases e : j = i
  · subst e
    rw [List.getD_eq_getElem?_getD, List.getElem?_set_self (by rw [tabG_len]; exact hj), if_pos ⟨by omega, hg⟩, tabG_get _ _ _ hj, if_neg (by omega)]
    rfl
  · rw [List.getD_eq_getElem?_getD, List.getElem?_set_ne (Ne.symm e), ← List.getD_eq_getElem?_getD, tabG_get _ _ _ hj]
    by_cases h : j < i ∧ gone.getD j false = true
    · rw [if_pos h, if_pos ⟨by omega, h.2⟩]
    · rw [if_neg h, if_neg (fun h2 => h ⟨by omega, h2.2⟩)]
theorem tabG_keep (t : List Sl) (gone : List Bool) {i : Nat} (hg : gone.getD i false = false) : tabG t gone (i + 1) = tabG t gone i := by
  apply sl_ext (by rw [tabG_len, tabG_len])
  intro j hj
  rw [tabG_len] at hj
  rw [tabG_get _ _ _ hj, tabG_get _ _ _ hj]
  by_cases h : j < i ∧ gone.getD j false = true
  · rw [if_pos h, if_pos ⟨by omega, h.2⟩]
  · rw [if_neg h, if_neg (fun h2 => by
      by_cases e : j = i
      · subst e; rw [hg] at h2; cases h2.2
      · exact h ⟨by omega, h2.2⟩)]
def leftB (N : Nat) (gone : List Bool) (i : Nat) : Bool := (List.range i).any fun j => decide (N ≤ j) && !(gone.getD j false)
theorem leftB_succ (N : Nat) (gone : List Bool) (i : Nat) : leftB N gone (i + 1) = (leftB N gone i || (decide (N ≤ i) && !(gone.getD i false))) := by
  unfold leftB; rw [List.range_succ, List.any_append]; simp
section
variable {row : List (List Int)} {g : Ge} {t : List Sl} {all : List (List Int)} (W : Whole row g t all)
include W
theorem whole_l4 (n m : Nat) (S : Int) (hS : S = g.2.2.1) (gone : List Bool) (i : Nat) (hi : (i : Int) < 8 + g.2.2.1) (b103 b104 : Int) : ∀ (d j k : Nat), j + d = all.length → d < k →
    law25_DamageWhole.l4 n m k (row, S, gone, t, (g.1, g.2.1, g.2.2.1, g.2.2.2.1, ()), all, List.replicate (cN g) true, (i : Int), (all.take j).map (fun c => c.getD i 0), b103, b104, (all.length : Int), (j : Int), ()) = some (Sum.inr (row, S, gone, t, (g.1, g.2.1, g.2.2.1, g.2.2.2.1, ()), all, List.replicate (cN g) true, all.map (fun c => c.getD i 0), b103, b104, ()))
  | 0, j, 0, _, h => absurd h (by decide)
  | d + 1, j, 0, _, h => absurd h (by omega)
  | 0, j, k + 1, hj, hk => by
    obtain rfl : j = all.length := by omega
    rw [law25_DamageWhole.l4_eq, if_neg (by simp), List.take_length]
  | d + 1, j, k + 1, hj, hk => by
    have hg := W.right
    obtain ⟨_, c1, c2⟩ := cn_nb hg
    have hgg := hg
    unfold rgtP at hgg
    have ha : j < all.length := by omega
    have hal := W.alen
    have e0 : all.getD j [] = all[j] := by rw [List.getD_eq_getElem?_getD, List.getElem?_eq_getElem ha]; rfl
    have hw := W.wid all[j] (List.getElem_mem ha)
    have et : (List.replicate (cN g) true).getD j false = true := by
      rw [List.getD_eq_getElem?_getD, List.getElem?_replicate, if_pos (by omega)]; rfl
    have es : (all.take j).map (fun c => c.getD i 0) ++ [all[j].getD i 0] = (all.take (j + 1)).map (fun c => c.getD i 0) := by
      rw [List.take_add_one, List.getElem?_eq_getElem ha, List.map_append]; rfl
    rw [law25_DamageWhole.l4_eq, if_pos (by simp; omega), if_pos (by omega), if_pos (by rw [List.length_replicate]; omega), Int.toNat_natCast, et, if_neg (by decide), if_pos (by omega), if_pos (by omega), e0, wr64 (x := S + 8) (by omega) (by omega), if_neg (by simp; omega), if_pos (by omega), if_pos (by omega), if_pos (by omega), if_pos (by omega), Int.toNat_natCast, if_pos (lim_of (by rw [List.length_map, List.length_take]; show _ + ((1 : Nat) : Int) ≤ _; omega)), es, s_int j (by omega)]
    exact whole_l4 n m S hS gone i hi b103 b104 d (j + 1) k (by omega) (by omega)
theorem whole_l2 (S : Int) (hS : S = g.2.2.1) (gone : List Bool) (w : Nat) (hw : (w : Int) = 8 + g.2.2.1) (hn : 1 ≤ row.length) (d : Nat) : ∀ i : Nat, i + d = w →
    Al.Es (fun n m k => law25_DamageWhole.l2 n m k (row, S, gone, t, (g.1, g.2.1, g.2.2.1, g.2.2.2.1, ()), all, List.replicate (cN g) true, (w : Int), (i : Int), ())) (Sum.inr (row, gone, t, (g.1, g.2.1, g.2.2.1, g.2.2.2.1, ()), all, ())) := by
  induction d with
  | zero =>
    intro i hi
    obtain rfl : i = w := by omega
    exact Al.Es.step (fun n m k => law25_DamageWhole.l2_eq n m k _ _ _ _ _ _ _ _ _ _ _ _) (Al.Es.neg (by simp) (Al.Es.now _))
  | succ d ih =>
    intro i hi
    have hg := W.right
    obtain ⟨_, c1, c2⟩ := cn_nb hg
    have hgg := hg
    unfold rgtP at hgg
    obtain ⟨v, hv, hword⟩ := W.word i (by omega)
    have hvl : v.length = cN g := by
      have := congrArg List.length hv
      rw [List.length_map, Al.bs_length, W.alen] at this
      exact this.symm
    have h4 : Al.Es (fun n m k => law25_DamageWhole.l4 n m m (row, S, gone, t, (g.1, g.2.1, g.2.2.1, g.2.2.2.1, ()), all, List.replicate (cN g) true, (i : Int), [], (w : Int), (i : Int), (all.length : Int), (0 : Int), ())) (Sum.inr (row, S, gone, t, (g.1, g.2.1, g.2.2.1, g.2.2.2.1, ()), all, List.replicate (cN g) true, all.map (fun c => c.getD i 0), (w : Int), (i : Int), ())) := by
      refine ⟨all.length + 1, fun n m k _ h2 _ => ?_⟩
      have h := whole_l4 W n m S hS gone i (by omega) (w : Int) (i : Int) all.length 0 m (by omega) (by omega)
      rw [show ((0 : Nat) : Int) = 0 from rfl, show (all.take 0).map (fun c : List Int => c.getD i 0) = [] from rfl] at h
      exact h
    refine Al.Es.step (fun n m k => law25_DamageWhole.l2_eq n m k row S gone t g.1 g.2.1 g.2.2.1 g.2.2.2.1 all (List.replicate (cN g) true) (w : Int) (i : Int)) ?_
    refine Al.Es.pos (by simp; omega) ?_
    refine Al.Es.bind h4 ?_
    dsimp only [Sum.elim_inr]
    rw [hv]
    refine Al.Es.bind (Al.is_true v row.length hn (by rw [hvl]; exact W.row_le) (by omega) hword) (Al.Es.neg (by decide) ?_)
    rw [s_int i (by omega)]
    exact ih (i + 1) (by omega)
theorem whole_l6 {n : Nat} (hn : 16777301 ≤ n) (m : Nat) (hS : g.2.2.1 ≤ 40) (gone : List Bool) (hgo : gone.length ≤ 1000) : ∀ (d i k : Nat), i + d = t.length → d < k →
    law25_DamageWhole.l6 n m k (row, gone, tabG t gone i, (g.1, g.2.1, g.2.2.1, g.2.2.2.1, ()), all, leftB row.length gone i, (t.length : Int), (i : Int), ()) = some (Sum.inl (tabG t gone t.length, (g.1, g.2.1, g.2.2.1, g.2.2.2.1, ()), leftB row.length gone t.length, ()))
  | 0, i, 0, _, h => absurd h (by decide)
  | d + 1, i, 0, _, h => absurd h (by omega)
  | 0, i, k + 1, hi, hk => by
    obtain rfl : i = t.length := by omega
    rw [law25_DamageWhole.l6_eq, if_neg (by simp)]
  | d + 1, i, k + 1, hi, hk => by
    have hg := W.right
    obtain ⟨e1, c1, c2⟩ := cn_nb hg
    have hgg := hg
    unfold rgtP at hgg
    have htl := W.len
    have n1 := W.n1
    have hal := W.alen
    have ha : i < t.length := by omega
    have ih := whole_l6 hn m hS gone hgo d (i + 1) k (by omega) (by omega)
    have tail : (if (decide ((i : Int) < ((List.length gone : Nat) : Int))) = true then (if 0 ≤ (i : Int) then (if (i : Int) < ((List.length gone : Nat) : Int) then (if (List.getD gone (Int.toNat (i : Int)) false) = true then (if 0 ≤ (i : Int) then (if (i : Int) < ((List.length (tabG t gone i) : Nat) : Int) then (law25_DamageWhole.l6 n m k (row, gone, (List.set (tabG t gone i) (Int.toNat (i : Int)) (false, (List.getD (tabG t gone i) (Int.toNat (i : Int)) (false, (([] : List Int), ()))).2)), (g.1, g.2.1, g.2.2.1, g.2.2.2.1, ()), all, (leftB row.length gone i), (t.length : Int), (wr IntKind.i64 ((i : Int) + (1 : Int))), ())) else none) else none) else (if (leftB row.length gone i) = true then (law25_DamageWhole.l6 n m k (row, gone, (tabG t gone i), (g.1, g.2.1, g.2.2.1, g.2.2.2.1, ()), all, true, (t.length : Int), (wr IntKind.i64 ((i : Int) + (1 : Int))), ())) else (law25_DamageWhole.l6 n m k (row, gone, (tabG t gone i), (g.1, g.2.1, g.2.2.1, g.2.2.2.1, ()), all, (decide ((i : Int) ≥ ((List.length row : Nat) : Int))), (t.length : Int), (wr IntKind.i64 ((i : Int) + (1 : Int))), ())))) else none) else none) else (if (leftB row.length gone i) = true then (law25_DamageWhole.l6 n m k (row, gone, (tabG t gone i), (g.1, g.2.1, g.2.2.1, g.2.2.2.1, ()), all, true, (t.length : Int), (wr IntKind.i64 ((i : Int) + (1 : Int))), ())) else (law25_DamageWhole.l6 n m k (row, gone, (tabG t gone i), (g.1, g.2.1, g.2.2.1, g.2.2.2.1, ()), all, (decide ((i : Int) ≥ ((List.length row : Nat) : Int))), (t.length : Int), (wr IntKind.i64 ((i : Int) + (1 : Int))), ())))) = some (Sum.inl (tabG t gone t.length, (g.1, g.2.1, g.2.2.1, g.2.2.2.1, ()), leftB row.length gone t.length, ())) := by
      rw [Int.toNat_natCast, s_int i (by omega), tabG_len]
      by_cases hgi : gone.getD i false = true
      · have hil : i < gone.length := by
          apply Classical.byContradiction
          intro h
          rw [List.getD_eq_getElem?_getD, List.getElem?_eq_none (by omega)] at hgi
          cases hgi
        have e : leftB row.length gone (i + 1) = leftB row.length gone i := by rw [leftB_succ, hgi]; simp
        have es := tabG_set t gone ha hgi
        rw [if_pos (by simpa using hil), if_pos (by omega), if_pos (by omega), if_pos hgi, if_pos (by omega), if_pos (by omega)]
        rw [show List.set (tabG t gone i) i (false, ((tabG t gone i).getD i (false, ([], ()))).2) = tabG t gone (i + 1) from es, ← e]
        exact ih
      · have hgf : gone.getD i false = false := by simpa using hgi
        have e : leftB row.length gone (i + 1) = (leftB row.length gone i || decide (row.length ≤ i)) := by rw [leftB_succ, hgf]; simp
        rw [tabG_keep t gone hgf] at ih
        have hlast : (if leftB row.length gone i = true then law25_DamageWhole.l6 n m k (row, gone, tabG t gone i, (g.1, g.2.1, g.2.2.1, g.2.2.2.1, ()), all, true, (t.length : Int), ((i + 1 : Nat) : Int), ()) else law25_DamageWhole.l6 n m k (row, gone, tabG t gone i, (g.1, g.2.1, g.2.2.1, g.2.2.2.1, ()), all, (decide ((i : Int) ≥ ((List.length row : Nat) : Int))), (t.length : Int), ((i + 1 : Nat) : Int), ())) = some (Sum.inl (tabG t gone t.length, (g.1, g.2.1, g.2.2.1, g.2.2.2.1, ()), leftB row.length gone t.length, ())) := by
          cases hlb : leftB row.length gone i with
          | true =>
            rw [hlb, Bool.true_or] at e
            rw [if_pos rfl, ← e]
            exact ih
          | false =>
            rw [hlb, Bool.false_or] at e
            rw [if_neg (by decide), show decide ((i : Int) ≥ ((List.length row : Nat) : Int)) = decide (row.length ≤ i) from decide_eq_decide.2 (by omega), ← e]
            exact ih
        by_cases hil : i < gone.length
        · rw [if_pos (by simpa using hil), if_pos (by omega), if_pos (by omega), if_neg hgi]
          exact hlast
        · rw [if_neg (by simpa using hil)]
          exact hlast
    rw [law25_DamageWhole.l6_eq, if_pos (by simp; omega)]
    by_cases hN : row.length ≤ i
    case neg =>
      rw [if_neg (by simp; omega)]
      exact tail
    have hrec := W.rec' i hN (by omega)
    have hget : (tabG t gone i).getD i zSl = t.getD i zSl := by rw [tabG_get _ _ _ ha, if_neg (by omega)]
    have hai : i < all.length := by omega
    have hwc := allD (z := []) W.wid hai
    have hbc := allD (z := []) W.by' hai
    have hsm := smS_ok (g := g) hal
    have hnb : nbN g ≤ 49 := by
      obtain ⟨e2, _, _⟩ := nb_pos hg
      have h3 : (8 + g.2.2.1 + g.2.2.2.1 - 1) / g.2.2.2.1 < 50 := by
        apply Int.ediv_lt_of_lt_mul (by omega)
        have : 50 * 1 ≤ 50 * g.2.2.2.1 := Int.mul_le_mul_of_nonneg_left (by omega) (by decide)
        omega
      omega
    have hhd : hdN g = 24 + 4 * (cN g * nbN g) := rfl
    have hcn : cN g * nbN g ≤ 255 * 49 := Nat.mul_le_mul c2 hnb
    have hpar : seal_Parse.f n (writeS g (i - row.length) (smS g all) (all.getD i []), ()) = some (parseS (writeS g (i - row.length) (smS g all) (all.getD i []))) := parse_is (by omega) (writeS_by hbc) (by rw [writeS_len hsm]; omega)
    rw [parse_back hg hsm (by omega) hwc] at hpar
    have hkn := known_is (n := n) (by omega) (cols := all) (sums := smS g all) W.by' (by omega) (by rw [hsm.len]; omega) hg
    have hkl : ∀ r ∈ knT all (smS g all) g all.length, r.length ≤ 1000000 := fun r hr => by rw [Whole.known W r hr, List.length_replicate]; omega
    have hwo := worst_is (n := n) (t := knT all (smS g all) g all.length) (by rw [knT_len]; omega) (by omega) hkl
    rw [worst_zero (Whole.known W)] at hwo
    rw [if_pos (by simp; omega), if_pos (by omega), if_pos (by rw [tabG_len]; omega), Int.toNat_natCast, show (tabG t gone i).getD i (false, ([], ())) = (true, writeS g (i - row.length) (smS g all) (all.getD i []), ()) from hget.trans hrec, hpar, Option.bind_some]
    dsimp only
    rw [if_neg (by decide), if_neg (by rw [eqG]; decide)]
    refine (congrArg (Option.bind · _) hkn).trans ?_
    rw [Option.bind_some]
    refine (congrArg (Option.bind · _) hwo).trans ?_
    rw [Option.bind_some]
    rw [if_neg (by decide)]
    rw [Int.toNat_natCast, show (tabG t gone i).getD i (false, ([], ())) = (true, writeS g (i - row.length) (smS g all) (all.getD i []), ()) from hget.trans hrec] at tail
    exact tail
theorem Whole.colG (gone : List Bool) {i : Nat} (hi : i < cN g) : (colS g ((tabG t gone t.length).getD i zSl) i).isSome = ((tabG t gone t.length).getD i zSl).1 := by
  have hit : i < t.length := by rw [W.len]; exact hi
  rw [tabG_get _ _ _ hit]
  by_cases h : i < t.length ∧ gone.getD i false = true
  · rw [if_pos h]; rfl
  · rw [if_neg h, Whole.col W hi]
    by_cases h2 : i < row.length
    · obtain ⟨b, h1, _⟩ := W.vol i h2
      rw [h1]; rfl
    · rw [W.rec' i (by omega) hi]; rfl
theorem Whole.slots : SlOk t ∧ t.length ≤ 1000 → True := fun _ => trivial
theorem whole_l8 (n m : Nat) (L : Bool) (gone : List Bool) : ∀ (d i k : Nat), i + d = t.length → d < k →
    law25_DamageWhole.l8 n m k (tabG t gone t.length, L, thT (tabG t gone t.length) g (cN g), (t.length : Int), (i : Int), ()) = some (Sum.inr (tabG t gone t.length, L, ()))
  | 0, i, 0, _, h => absurd h (by decide)
  | d + 1, i, 0, _, h => absurd h (by omega)
  | 0, i, k + 1, hi, hk => by
    rw [law25_DamageWhole.l8_eq, if_neg (by simp; omega)]
  | d + 1, i, k + 1, hi, hk => by
    obtain ⟨_, c1, c2⟩ := cn_nb W.right
    have htl := W.len
    have ha : i < t.length := by omega
    have e : (thT (tabG t gone t.length) g (cN g)).getD i false = ((tabG t gone t.length).getD i zSl).1 := by
      have h' : i < (thT (tabG t gone t.length) g (cN g)).length := by rw [thT_len]; omega
      rw [← Whole.colG W gone (show i < cN g by omega), List.getD_eq_getElem?_getD, List.getElem?_eq_getElem h']
      simp [thT]
    rw [law25_DamageWhole.l8_eq, if_pos (by simp; omega), if_pos (by omega), if_pos (by rw [thT_len]; omega), if_pos (by omega), if_pos (by rw [tabG_len]; omega), Int.toNat_natCast, e, if_neg (by rw [show (tabG t gone t.length).getD i (false, ([], ())) = (tabG t gone t.length).getD i zSl from rfl]; simp), s_int i (by omega)]
    exact whole_l8 n m L gone d (i + 1) k (by omega) (by omega)
theorem Whole.slot_ok (gone : List Bool) (hS : g.2.2.1 ≤ 40) : SlOk (tabG t gone t.length) ∧ SlOk t := by
  have hg := W.right
  obtain ⟨e1, c1, c2⟩ := cn_nb hg
  have hgg := hg
  unfold rgtP at hgg
  have htl := W.len
  have hal := W.alen
  have hsm := smS_ok (g := g) hal
  have hnb : nbN g ≤ 49 := by
    obtain ⟨e2, _, _⟩ := nb_pos hg
    have h3 : (8 + g.2.2.1 + g.2.2.2.1 - 1) / g.2.2.2.1 < 50 := by
      apply Int.ediv_lt_of_lt_mul (by omega)
      have : 50 * 1 ≤ 50 * g.2.2.2.1 := Int.mul_le_mul_of_nonneg_left (by omega) (by decide)
      omega
    omega
  have hhd : hdN g = 24 + 4 * (cN g * nbN g) := rfl
  have hcn : cN g * nbN g ≤ 255 * 49 := Nat.mul_le_mul c2 hnb
  have hone : ∀ i, i < t.length → By (t.getD i zSl).2.1 ∧ (t.getD i zSl).2.1.length ≤ 1000000 := fun i hi => by
    by_cases h : i < row.length
    · obtain ⟨b, h1, h2, h3, h4, h5⟩ := W.vol i h
      rw [h1]
      exact ⟨h2, by show b.length ≤ _; omega⟩
    · rw [W.rec' i (by omega) (by omega)]
      have hwc := allD (z := []) W.wid (i := i) (by omega)
      have hbc := allD (z := []) W.by' (i := i) (by omega)
      exact ⟨writeS_by hbc, by show (writeS _ _ _ _).length ≤ _; rw [writeS_len hsm]; omega⟩
  constructor
  · intro s hs
    obtain ⟨j, hj, rfl⟩ := List.mem_map.1 (show s ∈ (List.range t.length).map _ from hs)
    have := hone j (List.mem_range.1 hj)
    split
    · exact this
    · exact this
  · intro s hs
    obtain ⟨j, hj, rfl⟩ := List.getElem_of_mem hs
    have := hone j hj
    rwa [slD hj] at this
theorem find_some : ∀ (l : List Sl) (i j : Nat), j < l.length → foundB (l.getD j zSl) (i + j) → findL i l ≠ none
  | [], i, j, h, _ => by simp at h
  | s :: l, i, 0, h, hf => by
    unfold findL
    rw [if_pos (show foundB s i from hf)]
    exact fun h => by cases h
  | s :: l, i, j + 1, h, hf => by
    unfold findL
    split
    · exact fun h => by cases h
    · refine find_some l (i + 1) j (by simpa using h) ?_
      rw [show i + 1 + j = i + (j + 1) by omega]
      exact hf
theorem Whole.found (gone : List Bool) (h : leftB row.length gone t.length = true) : (findA (tabG t gone t.length)).2.1 = true := by
  have hg := W.right
  obtain ⟨e1, c1, c2⟩ := cn_nb hg
  have n1 := W.n1
  unfold leftB at h
  rw [List.any_eq_true] at h
  obtain ⟨j, hj, hb⟩ := h
  have hj' : j < t.length := List.mem_range.1 hj
  have htl := W.len
  rw [Bool.and_eq_true] at hb
  have hN : row.length ≤ j := of_decide_eq_true hb.1
  have hgn : gone.getD j false = false := by simpa using hb.2
  have hf : foundB ((tabG t gone t.length).getD j zSl) (0 + j) := by
    rw [tabG_get _ _ _ hj', if_neg (fun h2 => by rw [hgn] at h2; cases h2.2), W.rec' j hN (by omega)]
    have hgg := hg
    unfold rgtP at hgg
    unfold foundB
    dsimp only
    rw [parse_back hg (smS_ok W.alen) (i := j - row.length) (by omega) (allD (z := []) W.wid (i := j) (by rw [W.alen]; omega))]
    exact ⟨rfl, rfl, by show g.1 + ((j - row.length : Nat) : Int) = _; omega⟩
  have := find_some W (tabG t gone t.length) 0 j (by rw [tabG_len]; exact hj') hf
  unfold findA
  cases hfl : findL 0 (tabG t gone t.length) with
  | none => exact absurd hfl this
  | some s => rfl
end
theorem whole_l0 (n m : Nat) (K S B : Int) (gone : List Bool) {row : List (List Int)} (hl : row.length ≤ maxLen) : ∀ (d i k : Nat), i + d = row.length → d < k → law25_DamageWhole.l0 n m k (row, K, S, B, gone, row, (row.length : Int), (i : Int), ()) = some (if (row.drop i).all (fun s => decide (s.length ≤ 40)) = true then Sum.inr (row, K, S, B, gone, ()) else Sum.inl (true, ()))
  | 0, i, 0, _, h => absurd h (by decide)
  | d + 1, i, 0, _, h => absurd h (by omega)
  | 0, i, k + 1, hi, hk => by
    rw [law25_DamageWhole.l0_eq, if_neg (by simp; omega), List.drop_eq_nil_of_le (by omega), if_pos (by rfl)]
  | d + 1, i, k + 1, hi, hk => by
    have ha : i < row.length := by omega
    have e : row.getD i [] = row[i] := by rw [List.getD_eq_getElem?_getD, List.getElem?_eq_getElem ha]; rfl
    rw [law25_DamageWhole.l0_eq, if_pos (by simp; omega), if_pos (by omega), if_pos (by omega), Int.toNat_natCast, e, List.drop_eq_getElem_cons ha, List.all_cons]
    by_cases h : row[i].length > 40
    · rw [if_pos (decide_eq_true (by omega)), decide_eq_false (by omega), Bool.false_and, if_neg (by decide)]
    · rw [if_neg (by simp; omega), decide_eq_true (by omega), Bool.true_and, s_intM (by omega), whole_l0 n m K S B gone hl d (i + 1) k (by omega) (by omega)]
theorem damageWhole {row : List (List Int)} (hb : ∀ b ∈ row, By b) (hl : row.length ≤ maxLen) (K S B : Int) (gone : List Bool) : Al.Es (fun n _ _ => law25_DamageWhole.f n (row, K, S, B, gone, ())) (true, ()) := by
  refine Al.Es.congr (fun n _ _ => law25_DamageWhole.eq n row K S B gone) ?_
  refine Al.Es.bind (Al.Es.of 100 (fun n hn => alive25 hn)) ?_
  refine Al.Es.neg (by decide) ?_
  have h0 : Al.Es (fun n _ _ => law25_DamageWhole.l0 n n n (row, K, S, B, gone, row, (row.length : Int), (0 : Int), ())) (if row.all (fun s => decide (s.length ≤ 40)) = true then Sum.inr (row, K, S, B, gone, ()) else Sum.inl (true, ())) := by
    refine ⟨row.length + 1, fun n _ _ h1 _ _ => ?_⟩
    have h := whole_l0 n n K S B gone hl row.length 0 n (by omega) (by omega)
    rwa [show ((0 : Nat) : Int) = 0 from rfl, List.drop_zero] at h
  refine Al.Es.bind h0 ?_
  by_cases hall : row.all (fun s => decide (s.length ≤ 40)) = true
  case neg =>
    rw [if_neg hall]
    exact Al.Es.now _
  rw [if_pos hall]
  dsimp only [Sum.elim_inr]
  by_cases h1 : row.length > 6
  · exact Al.Es.pos (decide_eq_true (by omega)) (Al.Es.now _)
  refine Al.Es.neg (by simp; omega) ?_
  by_cases h2 : K < 0
  · exact Al.Es.pos (decide_eq_true h2) (Al.Es.now _)
  refine Al.Es.neg (by simpa using h2) ?_
  by_cases h3 : K > 4
  · exact Al.Es.pos (decide_eq_true h3) (Al.Es.now _)
  refine Al.Es.neg (by simpa using h3) ?_
  by_cases h4 : S > 40
  · exact Al.Es.pos (decide_eq_true h4) (Al.Es.now _)
  refine Al.Es.neg (by simpa using h4) ?_
  by_cases h5 : gone.length > 20
  · exact Al.Es.pos (decide_eq_true (by omega)) (Al.Es.now _)
  refine Al.Es.neg (by simp; omega) ?_
  rcases set_es hb (by omega) K S B ⟨by omega, by omega⟩ with ⟨e, he, hs⟩ | ⟨t, all, W, hs⟩
  · refine Al.Es.bind hs (Al.Es.pos (by simpa using he) ?_)
    exact Al.Es.now _
  have hg := W.right
  obtain ⟨e1, c1, c2⟩ := cn_nb hg
  have hgg := hg
  unfold rgtP at hgg
  dsimp only at hgg e1
  have htl := W.len
  have hal := W.alen
  obtain ⟨ok1, ok2⟩ := Whole.slot_ok W gone (show S ≤ 40 by omega)
  refine Al.Es.bind hs (Al.Es.neg (by simp) ?_)
  dsimp only
  refine Al.Es.bind (Al.Es.of 16777300 (fun n hn => colso_is hn (fun s hs => (ok2 s hs).2) hg)) ?_
  dsimp only
  rw [wr64 (x := (row.length : Int) + K) (by omega) (by omega), colT_len, htl, e1, bne_self_eq_false]
  refine Al.Es.neg (by decide) (Al.Es.neg (by decide) ?_)
  rw [Whole.cols W, Whole.ths W, wr64 (x := S + 8) (by omega) (by omega)]
  obtain ⟨w, hw⟩ := Int.eq_ofNat_of_zero_le (show 0 ≤ S + 8 by omega)
  rw [hw]
  have h2' := whole_l2 W S rfl gone w (show (w : Int) = 8 + S by omega) (by omega) w 0 (by omega)
  refine Al.Es.bind h2'.top ?_
  dsimp only [Sum.elim_inr]
  have h6 : Al.Es (fun n _ _ => law25_DamageWhole.l6 n n n (row, gone, t, ((row.length : Int), K, S, B, ()), all, false, (t.length : Int), (0 : Int), ())) (Sum.inl (tabG t gone t.length, ((row.length : Int), K, S, B, ()), leftB row.length gone t.length, ())) := by
    refine ⟨16777301 + t.length, fun n _ _ h1 _ _ => ?_⟩
    have h := whole_l6 W (n := n) (by omega) n (show S ≤ 40 by omega) gone (by omega) t.length 0 n (by omega) (by omega)
    rw [tabG_zero] at h
    exact h
  refine Al.Es.bind h6 ?_
  dsimp only [Sum.elim_inl]
  refine Al.Es.bind (Al.Es.of 16777300 (fun n hn => colso_is (t := tabG t gone t.length) hn (fun s hs => (ok1 s hs).2) hg)) ?_
  dsimp only
  rw [tabG_len]
  have h8 : Al.Es (fun n _ _ => law25_DamageWhole.l8 n n n (tabG t gone t.length, leftB row.length gone t.length, thT (tabG t gone t.length) ((row.length : Int), K, S, B, ()) (cN ((row.length : Int), K, S, B, ())), (t.length : Int), (0 : Int), ())) (Sum.inr (tabG t gone t.length, leftB row.length gone t.length, ())) :=
    ⟨t.length + 1, fun n _ _ h1 _ _ => whole_l8 W n n _ gone t.length 0 n (by omega) (by omega)⟩
  refine Al.Es.bind h8 ?_
  dsimp only [Sum.elim_inr]
  refine Al.Es.bind (Al.Es.of (16777300 + t.length) (fun n hn => findo_is (n := n) (by omega) ok1 (by rw [tabG_len]; omega) (by rw [tabG_len]; omega))) ?_
  dsimp only
  by_cases hfo : (findA (tabG t gone t.length)).2.1 = true
  · exact Al.Es.pos hfo (Al.Es.now _)
  · refine Al.Es.neg hfo ?_
    have : leftB row.length gone t.length = false := by
      cases hlb : leftB row.length gone t.length with
      | false => rfl
      | true => exact absurd (Whole.found W gone hlb) hfo
    rw [this]
    exact Al.Es.now _
theorem pure_DamageWhole (z0 : (Ki.list (.list (.int .u8))).den) (z1 z2 z3 : (Ki.int .i64).den) (z4 : (Ki.list .bool).den) (f0 : KWf (.list (.list (.int .u8))) z0) (f1 : KWf (.int .i64) z1) (f2 : KWf (.int .i64) z2) (f3 : KWf (.int .i64) z3) (f4 : KWf (.list .bool) z4) : ∃ n, law25_DamageWhole.f n (z0, z1, z2, z3, z4, ()) = some (true, ()) := by
  obtain ⟨N, h⟩ := Al.Es.out (damageWhole (row := z0) (fun b hb => by_of (f0.2 b hb)) f0.1 z1 z2 z3 z4)
  exact ⟨N, h N (Nat.le_refl _)⟩
end Go.Proofs.YtlioalaehkohlaaDoor.Vm

