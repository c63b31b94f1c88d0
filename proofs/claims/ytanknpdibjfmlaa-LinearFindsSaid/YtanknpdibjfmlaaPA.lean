/- Polynomials over the field of bytes, as lists of coefficients, the lowest first: values, sums, products, roots. Conditions: as each theorem states them. -/
import Derived.Test.YtanknpdibjfmlaaG0
namespace Go.Proofs.Ytanknpdibjfmlaa.Al
set_option linter.unusedVariables false
set_option linter.unusedSimpArgs false

/-! coefficients -/
def co (p : List G) (i : Nat) : G := p.getD i 0
theorem co_nil (i : Nat) : co [] i = 0 := rfl
theorem co_zero (a : G) (p : List G) : co (a :: p) 0 = a := rfl
theorem co_succ (a : G) (p : List G) (i : Nat) : co (a :: p) (i + 1) = co p i := rfl
theorem co_lt {p : List G} {i : Nat} (h : i < p.length) : co p i = p[i] := by
  simp [co, List.getD_eq_getElem?_getD, List.getElem?_eq_getElem h]
theorem co_ge {p : List G} {i : Nat} (h : p.length ≤ i) : co p i = 0 := by
  simp [co, List.getD_eq_getElem?_getD, List.getElem?_eq_none h]
theorem co_take (p : List G) (n i : Nat) : co (p.take n) i = if i < n then co p i else 0 := by
  simp only [co, List.getD_eq_getElem?_getD, List.getElem?_take]
  split <;> rfl
theorem co_drop (p : List G) (n i : Nat) : co (p.drop n) i = co p (n + i) := by
  simp only [co, List.getD_eq_getElem?_getD, List.getElem?_drop]
theorem co_append (p q : List G) (i : Nat) : co (p ++ q) i = if i < p.length then co p i else co q (i - p.length) := by
  simp only [co, List.getD_eq_getElem?_getD, List.getElem?_append]
  split <;> rfl
theorem co_set (p : List G) (n i : Nat) (a : G) (h : n < p.length) : co (p.set n a) i = if i = n then a else co p i := by
  simp only [co, List.getD_eq_getElem?_getD, List.getElem?_set]
  by_cases e : n = i
  · subst e
    simp [h]
  · simp [e, Ne.symm e]
theorem co_replicate (n i : Nat) : co (List.replicate n 0) i = 0 := by
  simp only [co, List.getD_eq_getElem?_getD, List.getElem?_replicate]
  split <;> rfl
theorem ext_co {p q : List G} (hl : p.length = q.length) (h : ∀ i, i < p.length → co p i = co q i) : p = q := by
  apply List.ext_getElem hl
  intro i h1 h2
  have := h i h1
  rwa [co_lt h1, co_lt h2] at this
def tab (n : Nat) (f : Nat → G) : List G := (List.range n).map f
theorem tab_length (n : Nat) (f : Nat → G) : (tab n f).length = n := by simp [tab]
theorem co_tab (n : Nat) (f : Nat → G) (i : Nat) : co (tab n f) i = if i < n then f i else 0 := by
  by_cases h : i < n
  · rw [if_pos h, co_lt (by rw [tab_length]; exact h)]
    simp [tab]
  · rw [if_neg h, co_ge (by rw [tab_length]; omega)]
theorem tab_succ (n : Nat) (f : Nat → G) : tab (n + 1) f = tab n f ++ [f n] := by simp [tab, List.range_succ]
theorem tab_zero (f : Nat → G) : tab 0 f = [] := rfl
theorem tab_co (p : List G) : tab p.length (co p) = p := by
  apply ext_co (tab_length _ _)
  intro i hi
  rw [tab_length] at hi
  rw [co_tab, if_pos hi]

/-! without noughts at the end -/
def trim : List G → List G
  | [] => []
  | a :: p => if trim p = [] ∧ a = 0 then [] else a :: trim p
theorem co_trim (p : List G) : ∀ i, co (trim p) i = co p i := by
  induction p with
  | nil => intro i; rfl
  | cons a p ih =>
    intro i
    unfold trim
    by_cases h : trim p = [] ∧ a = 0
    · rw [if_pos h]
      obtain ⟨h1, rfl⟩ := h
      cases i with
      | zero => rfl
      | succ i => rw [co_succ, ← ih, h1, co_nil, co_nil]
    · rw [if_neg h]
      cases i with
      | zero => rfl
      | succ i => rw [co_succ, co_succ, ih]
theorem trim_eq_nil {p : List G} (h : ∀ i, co p i = 0) : trim p = [] := by
  induction p with
  | nil => rfl
  | cons a p ih =>
    unfold trim
    rw [if_pos ⟨ih (fun i => h (i + 1)), h 0⟩]
theorem of_trim_nil {p : List G} (h : trim p = []) (i : Nat) : co p i = 0 := by
  rw [← co_trim, h, co_nil]
theorem trim_congr {p q : List G} (h : ∀ i, co p i = co q i) : trim p = trim q := by
  induction p generalizing q with
  | nil => rw [trim_eq_nil (p := q) (fun i => (h i).symm.trans (co_nil i))]; rfl
  | cons a p ih =>
    cases q with
    | nil => rw [trim_eq_nil (p := a :: p) (fun i => (h i).trans (co_nil i))]; rfl
    | cons b q =>
      have h0 : a = b := h 0
      have h1 : trim p = trim q := ih (fun i => h (i + 1))
      unfold trim
      rw [h0, h1]
theorem trim_trim (p : List G) : trim (trim p) = trim p := trim_congr (co_trim p)
theorem trim_length_le (p : List G) : (trim p).length ≤ p.length := by
  induction p with
  | nil => exact Nat.le_refl _
  | cons a p ih =>
    unfold trim
    split
    · exact Nat.zero_le _
    · simp only [List.length_cons]; omega
/-- The last coefficient of a trimmed row isn't 0. -/
theorem trim_last {p : List G} {n : Nat} (h : (trim p).length = n + 1) : co p n ≠ 0 := by
  induction p generalizing n with
  | nil => cases h
  | cons a p ih =>
    unfold trim at h
    by_cases hc : trim p = [] ∧ a = 0
    · rw [if_pos hc] at h
      cases h
    · rw [if_neg hc, List.length_cons] at h
      cases n with
      | zero =>
        have h1 : trim p = [] := List.eq_nil_of_length_eq_zero (by omega)
        intro e
        exact hc ⟨h1, e⟩
      | succ n => exact ih (by omega)
theorem trim_ge {p : List G} {i : Nat} (h : (trim p).length ≤ i) : co p i = 0 := by rw [← co_trim, co_ge h]
theorem trim_length_of {p : List G} {m : Nat} (h0 : ∀ j, m ≤ j → co p j = 0) (h1 : m = 0 ∨ co p (m - 1) ≠ 0) : (trim p).length = m := by
  rcases Nat.lt_trichotomy (trim p).length m with h | h | h
  · exfalso
    rcases h1 with h1 | h1
    · omega
    · exact h1 (trim_ge (by omega))
  · exact h
  · exfalso
    obtain ⟨n, hn⟩ : ∃ n, (trim p).length = n + 1 := ⟨(trim p).length - 1, by omega⟩
    exact trim_last hn (h0 n (by omega))
theorem trim_eq_take (p : List G) : trim p = p.take (trim p).length := by
  have hle := trim_length_le p
  apply ext_co
  · rw [List.length_take]; omega
  · intro i hi
    rw [co_trim, co_take, if_pos hi]
theorem trim_len_le_of {p : List G} {m : Nat} (h : ∀ j, m ≤ j → co p j = 0) : (trim p).length ≤ m := by
  rcases Nat.lt_or_ge m (trim p).length with hlt | hge
  · exfalso
    obtain ⟨n, hn⟩ : ∃ n, (trim p).length = n + 1 := ⟨(trim p).length - 1, by omega⟩
    exact trim_last hn (h n (by omega))
  · exact hge
theorem trim_id {p : List G} (h : ∀ n, p.length = n + 1 → co p n ≠ 0) : trim p = p := by
  have hl : (trim p).length = p.length := by
    apply trim_length_of
    · intro j hj
      exact co_ge hj
    · cases hp : p.length with
      | zero => exact .inl rfl
      | succ n => exact .inr (h n hp)
  rw [trim_eq_take, hl, List.take_length]

/-! values -/
def ev : List G → G → G
  | [], _ => 0
  | a :: p, x => a + x * ev p x
theorem ev_nil (x : G) : ev [] x = 0 := rfl
theorem ev_cons (a : G) (p : List G) (x : G) : ev (a :: p) x = a + x * ev p x := rfl
theorem ev_trim (p : List G) (x : G) : ev (trim p) x = ev p x := by
  induction p with
  | nil => rfl
  | cons a p ih =>
    unfold trim
    by_cases h : trim p = [] ∧ a = 0
    · rw [if_pos h]
      obtain ⟨h1, rfl⟩ := h
      rw [ev_cons, ← ih, h1, ev_nil, mul_zero, add_zero]
    · rw [if_neg h, ev_cons, ev_cons, ih]
theorem ev_congr {p q : List G} (h : ∀ i, co p i = co q i) (x : G) : ev p x = ev q x := by
  rw [← ev_trim p, ← ev_trim q, trim_congr h]
theorem ev_zero {p : List G} (h : ∀ i, co p i = 0) (x : G) : ev p x = 0 := by
  rw [ev_congr (q := []) (fun i => (h i).trans (co_nil i).symm)]; rfl
theorem ev_at_zero (p : List G) : ev p 0 = co p 0 := by
  cases p with
  | nil => rfl
  | cons a p => rw [ev_cons, zero_mul, add_zero]; rfl
theorem ev_append (p q : List G) (a x : G) : ev (p ++ [a]) x = ev (p ++ [0]) x + ev (List.replicate p.length 0 ++ [a]) x := by
  induction p with
  | nil =>
    show ev [a] x = ev [0] x + ev [a] x
    simp only [ev_cons, ev_nil, mul_zero, add_zero, zero_add]
  | cons b p ih =>
    simp only [List.cons_append, ev_cons, List.length_cons, List.replicate_succ]
    rw [ih, mul_add, zero_add, ← add_assoc]

/-! sums -/
def zadd : List G → List G → List G
  | [], q => q
  | p, [] => p
  | a :: p, b :: q => (a + b) :: zadd p q
theorem co_zadd (p q : List G) (i : Nat) : co (zadd p q) i = co p i + co q i := by
  induction p generalizing q i with
  | nil => rw [zadd, co_nil, zero_add]
  | cons a p ih =>
    cases q with
    | nil => rw [zadd, co_nil, add_zero]; intro h; cases h
    | cons b q =>
      cases i with
      | zero => rfl
      | succ i => rw [zadd, co_succ, co_succ, co_succ, ih]
theorem ev_zadd (p q : List G) (x : G) : ev (zadd p q) x = ev p x + ev q x := by
  induction p generalizing q with
  | nil => rw [zadd, ev_nil, zero_add]
  | cons a p ih =>
    cases q with
    | nil => rw [zadd, ev_nil, add_zero]; intro h; cases h
    | cons b q =>
      rw [zadd, ev_cons, ev_cons, ev_cons, ih, mul_add]
      ac_rfl
theorem zadd_length (p q : List G) : (zadd p q).length = max p.length q.length := by
  induction p generalizing q with
  | nil => rw [zadd, List.length_nil]; omega
  | cons a p ih =>
    cases q with
    | nil => rw [zadd, List.length_nil]; omega; intro h; cases h
    | cons b q => rw [zadd, List.length_cons, List.length_cons, List.length_cons, ih]; omega
theorem zadd_tab (p q : List G) : zadd p q = tab (max p.length q.length) (fun i => co p i + co q i) := by
  apply ext_co
  · rw [zadd_length, tab_length]
  · intro i hi
    rw [zadd_length] at hi
    rw [co_zadd, co_tab, if_pos hi]
def padd (p q : List G) : List G := trim (zadd p q)
theorem co_padd (p q : List G) (i : Nat) : co (padd p q) i = co p i + co q i := by rw [padd, co_trim, co_zadd]
theorem ev_padd (p q : List G) (x : G) : ev (padd p q) x = ev p x + ev q x := by rw [padd, ev_trim, ev_zadd]
theorem padd_length_le (p q : List G) : (padd p q).length ≤ max p.length q.length := by
  have := trim_length_le (zadd p q)
  rw [zadd_length] at this
  exact this
theorem trim_padd (p q : List G) : trim (padd p q) = padd p q := trim_trim _

/-! scaled, and shifted -/
def scale (c : G) (p : List G) : List G := p.map (c * ·)
theorem co_scale (c : G) (p : List G) (i : Nat) : co (scale c p) i = c * co p i := by
  induction p generalizing i with
  | nil => rw [scale, List.map_nil, co_nil, mul_zero]
  | cons a p ih =>
    cases i with
    | zero => rfl
    | succ i => exact ih i
theorem ev_scale (c : G) (p : List G) (x : G) : ev (scale c p) x = c * ev p x := by
  induction p with
  | nil => rw [scale, List.map_nil, ev_nil, mul_zero]
  | cons a p ih =>
    show c * a + x * ev (scale c p) x = _
    rw [ih, ev_cons, mul_add, mul_left_comm]
theorem scale_length (c : G) (p : List G) : (scale c p).length = p.length := List.length_map _

/-! sums of rows of values -/
def sum (f : Nat → G) : Nat → G
  | 0 => 0
  | n + 1 => sum f n + f n
theorem sum_zero (f : Nat → G) : sum f 0 = 0 := rfl
theorem sum_succ (f : Nat → G) (n : Nat) : sum f (n + 1) = sum f n + f n := rfl
theorem sum_congr {f g : Nat → G} {n : Nat} (h : ∀ i, i < n → f i = g i) : sum f n = sum g n := by
  induction n with
  | zero => rfl
  | succ n ih => rw [sum_succ, sum_succ, ih (fun i hi => h i (by omega)), h n (by omega)]
theorem sum_add (f g : Nat → G) (n : Nat) : sum (fun i => f i + g i) n = sum f n + sum g n := by
  induction n with
  | zero => rw [sum_zero, sum_zero, sum_zero, add_zero]
  | succ n ih =>
    simp only [sum_succ, ih]
    ac_rfl
theorem sum_mul (c : G) (f : Nat → G) (n : Nat) : sum (fun i => c * f i) n = c * sum f n := by
  induction n with
  | zero => rw [sum_zero, sum_zero, mul_zero]
  | succ n ih => rw [sum_succ, sum_succ, ih, mul_add]
theorem sum_eq_zero {f : Nat → G} {n : Nat} (h : ∀ i, i < n → f i = 0) : sum f n = 0 := by
  induction n with
  | zero => rfl
  | succ n ih => rw [sum_succ, ih (fun i hi => h i (by omega)), h n (by omega), add_zero]
theorem sum_front (f : Nat → G) (n : Nat) : sum f (n + 1) = f 0 + sum (fun i => f (i + 1)) n := by
  induction n with
  | zero => rw [sum_succ, sum_zero, sum_zero, add_comm]
  | succ n ih => rw [sum_succ, ih, sum_succ, add_assoc]
theorem sum_extend {f : Nat → G} {n m : Nat} (hnm : n ≤ m) (h : ∀ i, n ≤ i → i < m → f i = 0) : sum f m = sum f n := by
  induction m with
  | zero => rw [show n = 0 by omega]
  | succ m ih =>
    by_cases e : n = m + 1
    · rw [e]
    · rw [sum_succ, ih (by omega) (fun i h1 h2 => h i h1 (by omega)), h m (by omega) (by omega), add_zero]
theorem sum_single {f : Nat → G} {n k : Nat} (hk : k < n) (h : ∀ i, i < n → i ≠ k → f i = 0) : sum f n = f k := by
  induction n with
  | zero => omega
  | succ n ih =>
    rw [sum_succ]
    by_cases e : k = n
    · subst e
      rw [sum_eq_zero (fun i hi => h i (by omega) (by omega)), zero_add]
    · rw [ih (by omega) (fun i hi hne => h i (by omega) hne), h n (by omega) (by omega), add_zero]

/-! products -/
def rmul : List G → List G → List G
  | [], _ => []
  | a :: p, q => zadd (scale a q) (0 :: rmul p q)
theorem ev_rmul (p q : List G) (x : G) : ev (rmul p q) x = ev p x * ev q x := by
  induction p with
  | nil => rw [rmul, ev_nil, zero_mul]
  | cons a p ih => rw [rmul, ev_zadd, ev_scale, ev_cons, ih, ev_cons, add_mul, zero_add, mul_assoc]
theorem co_rmul (p q : List G) (m : Nat) : co (rmul p q) m = sum (fun j => co p j * co q (m - j)) (m + 1) := by
  induction p generalizing m with
  | nil =>
    rw [rmul, co_nil, sum_eq_zero]
    intro i _
    rw [co_nil, zero_mul]
  | cons a p ih =>
    rw [rmul, co_zadd, co_scale, sum_front]
    congr 1
    cases m with
    | zero => rfl
    | succ m =>
      rw [co_succ, ih]
      apply sum_congr
      intro i hi
      rw [co_succ, show m + 1 - (i + 1) = m - i by omega]
theorem rmul_length_le (p q : List G) : (rmul p q).length ≤ p.length + q.length := by
  induction p with
  | nil => simp [rmul]
  | cons a p ih =>
    rw [rmul, zadd_length, scale_length]
    simp only [List.length_cons]
    omega
def pmul (p q : List G) : List G := trim (rmul p q)
theorem ev_pmul (p q : List G) (x : G) : ev (pmul p q) x = ev p x * ev q x := by rw [pmul, ev_trim, ev_rmul]
theorem co_pmul (p q : List G) (m : Nat) : co (pmul p q) m = sum (fun j => co p j * co q (m - j)) (m + 1) := by rw [pmul, co_trim, co_rmul]
theorem trim_pmul (p q : List G) : trim (pmul p q) = pmul p q := trim_trim _
/-- Behind all coefficients there are none. -/
theorem co_pmul_ge {p q : List G} {m a b : Nat} (ha : ∀ i, a ≤ i → co p i = 0) (hb : ∀ i, b ≤ i → co q i = 0) (hm : a + b ≤ m + 1) : co (pmul p q) m = 0 := by
  rw [co_pmul]
  apply sum_eq_zero
  intro i hi
  by_cases h : a ≤ i
  · rw [ha i h, zero_mul]
  · rw [hb (m - i) (by omega), mul_zero]
/-- The last coefficient of a product. -/
theorem co_pmul_top {p q : List G} {a b : Nat} (ha : ∀ i, a < i → co p i = 0) (hb : ∀ i, b < i → co q i = 0) : co (pmul p q) (a + b) = co p a * co q b := by
  rw [co_pmul, sum_single (k := a) (by omega)]
  · rw [show a + b - a = b by omega]
  · intro i hi hne
    rcases Nat.lt_or_ge a i with h | h
    · rw [ha i h, zero_mul]
    · rw [hb (a + b - i) (by omega), mul_zero]
theorem pmul_nil_left (q : List G) : pmul [] q = [] := rfl
theorem pmul_length {p q : List G} {a b : Nat} (hp : (trim p).length = a + 1) (hq : (trim q).length = b + 1) : (pmul p q).length = a + b + 1 := by
  have h1 : ∀ i, a < i → co p i = 0 := fun i hi => trim_ge (by omega)
  have h2 : ∀ i, b < i → co q i = 0 := fun i hi => trim_ge (by omega)
  have := trim_length_of (p := pmul p q) (m := a + b + 1) (fun j hj => co_pmul_ge (a := a + 1) (b := b + 1) (fun i hi => h1 i (by omega)) (fun i hi => h2 i (by omega)) (by omega)) (.inr (by
    rw [show a + b + 1 - 1 = a + b by omega, co_pmul_top h1 h2]
    exact mul_ne_zero (trim_last hp) (trim_last hq)))
  rwa [trim_pmul] at this
theorem pmul_zero {p q : List G} (h : (∀ i, co p i = 0) ∨ ∀ i, co q i = 0) : pmul p q = [] := by
  rw [← trim_pmul]
  apply trim_eq_nil
  intro m
  rw [co_pmul]
  apply sum_eq_zero
  intro i _
  rcases h with h | h
  · rw [h, zero_mul]
  · rw [h, mul_zero]

/-! roots -/
def quo (a : G) : List G → List G
  | [] => []
  | c :: p => if p = [] then [] else ev p a :: quo a p
theorem ev_quo (a x : G) (p : List G) : ev p x + ev p a = (x + a) * ev (quo a p) x := by
  induction p with
  | nil => rw [ev_nil, ev_nil, add_self, quo, ev_nil, mul_zero]
  | cons c p ih =>
    unfold quo
    by_cases h : p = []
    · subst h
      rw [if_pos rfl, ev_cons, ev_nil, ev_cons, ev_nil, mul_zero, mul_zero, add_self, mul_zero]
    · rw [if_neg h, ev_cons, ev_cons, ev_cons, mul_add, mul_left_comm, ← ih]
      have : c + x * ev p x + (c + a * ev p a) = x * ev p x + a * ev p a := by
        rw [add_assoc, add_left_comm (x * ev p x) c, add_add_self]
      rw [this, mul_add, add_mul]
      have e2 : x * ev p a + a * ev p a + (x * ev p x + x * ev p a) = x * ev p x + a * ev p a + (x * ev p a + x * ev p a) := by ac_rfl
      rw [e2, add_self, add_zero]
theorem quo_length (a : G) (p : List G) : (quo a p).length = p.length - 1 := by
  induction p with
  | nil => rfl
  | cons c p ih =>
    unfold quo
    by_cases h : p = []
    · subst h
      rfl
    · rw [if_neg h, List.length_cons, ih, List.length_cons]
      have : 0 < p.length := List.length_pos_iff.2 h
      omega
theorem of_quo {a : G} {p : List G} (h : ∀ i, co (quo a p) i = 0) (h0 : ev p a = 0) (i : Nat) : co p i = 0 := by
  induction p generalizing i with
  | nil => rfl
  | cons c p ih =>
    by_cases hp : p = []
    · subst hp
      rw [ev_cons, ev_nil, mul_zero, add_zero] at h0
      cases i with
      | zero => exact h0
      | succ i => rfl
    · unfold quo at h
      rw [if_neg hp] at h
      have h1 : ev p a = 0 := h 0
      have h2 : ∀ i, co (quo a p) i = 0 := fun i => h (i + 1)
      rw [ev_cons, h1, mul_zero, add_zero] at h0
      cases i with
      | zero => exact h0
      | succ i => exact ih h2 h1 i
/-- A polynomial with as many roots as it has coefficients is 0. -/
theorem roots_zero : ∀ (xs : List G) (p : List G), xs.Nodup → p.length ≤ xs.length → (∀ x ∈ xs, ev p x = 0) → ∀ i, co p i = 0 := by
  intro xs
  induction xs with
  | nil =>
    intro p _ hl _ i
    rw [List.eq_nil_of_length_eq_zero (show p.length = 0 by simpa using hl), co_nil]
  | cons a xs ih =>
    intro p hd hl hr
    have ha : ev p a = 0 := hr a List.mem_cons_self
    apply of_quo (a := a) _ ha
    apply ih _ (List.nodup_cons.1 hd).2
    · rw [quo_length]
      simp only [List.length_cons] at hl
      omega
    · intro x hx
      have h1 := ev_quo a x p
      rw [hr x (List.mem_cons_of_mem _ hx), ha, add_zero] at h1
      have hne : x + a ≠ 0 := by
        intro e
        have := add_eq_zero.1 e
        subst this
        exact (List.nodup_cons.1 hd).1 hx
      exact (mul_eq_zero.1 h1.symm).resolve_left hne
/-- Two polynomials that are the same at as many places as they have coefficients are the same. -/
theorem same_of_values {xs p q : List G} (hd : xs.Nodup) (hp : p.length ≤ xs.length) (hq : q.length ≤ xs.length) (h : ∀ x ∈ xs, ev p x = ev q x) (i : Nat) : co p i = co q i := by
  have := roots_zero xs (zadd p q) hd (by rw [zadd_length]; omega) (fun x hx => by rw [ev_zadd, h x hx, add_self]) i
  rw [co_zadd] at this
  exact add_eq_zero.1 this
end Go.Proofs.Ytanknpdibjfmlaa.Al
