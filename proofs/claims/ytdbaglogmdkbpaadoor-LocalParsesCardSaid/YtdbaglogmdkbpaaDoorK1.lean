/- Rows: copies, comparisons, rows put one behind the other. Conditions: as each theorem states them. -/
import Derived.Test.YtdbaglogmdkbpaaDoorK0
namespace Go.Proofs.YtdbaglogmdkbpaaDoor.Vm
open Go Go.RowKit
set_option linter.unusedVariables false
set_option linter.unusedSimpArgs false
set_option maxRecDepth 10000
theorem copy_is (n : Nat) {l : List Int} (h : l.length ≤ 4294967296) : ref01_Copy.f n (l, ()) = some (l, ()) := by
  rw [ref01_Copy.eq, if_pos (lim_of (by simp; omega))]; rfl
theorem clone_is (n : Nat) {l : List Int} (h : l.length ≤ 4294967296) : slices_Clone_byte_byte.f n (l, ()) = some (l, ()) :=
  if_pos (lim_of (show (List.length l : Int) ≤ 4294967296 by omega))
theorem getD_eq {l : List Int} {i : Nat} (h : i < l.length) : l.getD i 0 = l[i] := by
  rw [List.getD_eq_getElem?_getD, List.getElem?_eq_getElem h]; rfl
theorem same_l0 (n m : Nat) {a b : List Int} (hab : a.length = b.length) (hl : a.length < 4611686018427387904) : ∀ (d i k : Nat), i + d = a.length → d < k → ref01_Same.l0 n m k (a, b, (i : Int), ()) = some (if a.drop i = b.drop i then Sum.inr () else Sum.inl (false, ()))
  | 0, i, 0, _, h => absurd h (by decide)
  | d + 1, i, 0, _, h => absurd h (by omega)
  | 0, i, k + 1, hi, hk => by
    rw [ref01_Same.l0_eq, if_neg (by simp; omega), List.drop_eq_nil_of_le (by omega), List.drop_eq_nil_of_le (by omega), if_pos rfl]
  | d + 1, i, k + 1, hi, hk => by
    have ha : i < a.length := by omega
    have hb : i < b.length := by omega
    have e : ((i : Int)).toNat = i := by omega
    rw [ref01_Same.l0_eq, if_pos (by simp; omega), if_pos (by omega), if_pos (by omega), if_pos (by omega), if_pos (by omega), e, getD_eq ha, getD_eq hb, List.drop_eq_getElem_cons ha, List.drop_eq_getElem_cons hb]
    by_cases hx : a[i] = b[i]
    · rw [if_neg (by simp [hx]), wr64 (by omega) (by omega), show (i : Int) + 1 = ((i + 1 : Nat) : Int) by omega, same_l0 n m hab hl d (i + 1) k (by omega) (by omega)]
      simp only [List.cons.injEq, hx, true_and]
    · rw [if_pos (by simp [hx]), if_neg (fun h => hx (List.cons.inj h).1)]
theorem same_is {n : Nat} {a b : List Int} (hl : a.length < n) (hn : n < 4611686018427387904) : ref01_Same.f n (a, b, ()) = some (decide (a = b), ()) := by
  rw [ref01_Same.eq]
  by_cases hab : a.length = b.length
  · rw [if_neg (by simp [hab])]
    have := same_l0 n n hab (by omega) a.length 0 n (by omega) (by omega)
    rw [show ((0 : Nat) : Int) = 0 from rfl] at this
    rw [this, Option.bind_some]
    by_cases h : a = b
    · simp [h]
    · simp [h]
  · rw [if_pos (by simp; omega)]
    have : a ≠ b := fun h => hab (by rw [h])
    simp [this]
theorem join_l0 (n m : Nat) {xs : List (List Int)} (hl : xs.flatten.length ≤ 4294967296) (hx : xs.length < 4611686018427387904) : ∀ (d i k : Nat), i + d = xs.length → d < k → ref01_Join.l0 n m k (xs, (xs.take i).flatten, (i : Int), ()) = some (xs.flatten, ())
  | 0, i, 0, _, h => absurd h (by decide)
  | d + 1, i, 0, _, h => absurd h (by omega)
  | 0, i, k + 1, hi, hk => by
    rw [ref01_Join.l0_eq, if_neg (by simp; omega), List.take_of_length_le (by omega)]
  | d + 1, i, k + 1, hi, hk => by
    have hi' : i < xs.length := by omega
    have e : ((i : Int)).toNat = i := by omega
    have e2 : xs.getD i [] = xs[i] := by rw [List.getD_eq_getElem?_getD, List.getElem?_eq_getElem hi']; rfl
    have e3 : (xs.take i).flatten ++ xs[i] = (xs.take (i + 1)).flatten := by
      rw [List.take_add_one, List.getElem?_eq_getElem hi', List.flatten_append]
      simp only [Option.toList_some, List.flatten_cons, List.flatten_nil, List.append_nil]
    have e4 : (xs.take (i + 1)).flatten.length ≤ xs.flatten.length := by
      have : xs.flatten = (xs.take (i + 1)).flatten ++ (xs.drop (i + 1)).flatten := by rw [← List.flatten_append, List.take_append_drop]
      rw [this, List.length_append]; omega
    rw [← e3, List.length_append] at e4
    rw [ref01_Join.l0_eq, if_pos (by simp; omega), if_pos (by omega), if_pos (by omega), e, e2, if_pos (lim_of (by omega)), e3, wr64 (by omega) (by omega), show (i : Int) + 1 = ((i + 1 : Nat) : Int) by omega]
    exact join_l0 n m hl hx d (i + 1) k (by omega) (by omega)
theorem join_is {n : Nat} {xs : List (List Int)} (hl : xs.flatten.length ≤ 4294967296) (hx : xs.length < n) (hn : n < 4611686018427387904) : ref01_Join.f n (xs, ()) = some (xs.flatten, ()) := by
  rw [ref01_Join.eq]
  have := join_l0 n n hl (by omega) xs.length 0 n (by omega) (by omega)
  rw [show ((0 : Nat) : Int) = 0 from rfl, show (xs.take 0).flatten = [] from rfl] at this
  rw [this]; rfl
theorem cat_l0 (n m : Nat) {xs : List (List Int)} (hl : xs.flatten.length ≤ 4294967296) (hx : xs.length < 4611686018427387904) : ∀ (d i k : Nat), i + d = xs.length → d < k → slices_Concat_byte_byte.l0 n m k (xs, (((xs.take i).flatten.length : Nat) : Int), xs, (xs.length : Int), (i : Int), ()) = some (xs, ((xs.flatten.length : Nat) : Int), ())
  | 0, i, 0, _, h => absurd h (by decide)
  | d + 1, i, 0, _, h => absurd h (by omega)
  | 0, i, k + 1, hi, hk => by
    rw [slices_Concat_byte_byte.l0_eq, if_neg (by simp; omega), List.take_of_length_le (by omega)]
  | d + 1, i, k + 1, hi, hk => by
    have hi' : i < xs.length := by omega
    have e : ((i : Int)).toNat = i := by omega
    have e2 : xs.getD i [] = xs[i] := by rw [List.getD_eq_getElem?_getD, List.getElem?_eq_getElem hi']; rfl
    have e3 : (xs.take i).flatten ++ xs[i] = (xs.take (i + 1)).flatten := by
      rw [List.take_add_one, List.getElem?_eq_getElem hi', List.flatten_append]
      simp only [Option.toList_some, List.flatten_cons, List.flatten_nil, List.append_nil]
    have e4 : (xs.take (i + 1)).flatten.length ≤ xs.flatten.length := by
      have : xs.flatten = (xs.take (i + 1)).flatten ++ (xs.drop (i + 1)).flatten := by rw [← List.flatten_append, List.take_append_drop]
      rw [this, List.length_append]; omega
    have e5 : (((xs.take i).flatten.length : Nat) : Int) + ((xs[i].length : Nat) : Int) = (((xs.take (i + 1)).flatten.length : Nat) : Int) := by rw [← e3, List.length_append]; omega
    rw [slices_Concat_byte_byte.l0_eq, if_pos (by simp; omega), if_pos (by omega), if_pos (by omega), e, e2, e5, wr64 (by omega) (by omega), if_neg (by simp <;> omega), wr64 (by omega) (by omega), show (i : Int) + 1 = ((i + 1 : Nat) : Int) by omega]
    exact cat_l0 n m hl hx d (i + 1) k (by omega) (by omega)
theorem cat_l2 (n m : Nat) {xs : List (List Int)} (hl : xs.flatten.length ≤ 4294967296) (hx : xs.length < 4611686018427387904) : ∀ (d i k : Nat), i + d = xs.length → d < k → slices_Concat_byte_byte.l2 n m k ((xs.take i).flatten, xs, (xs.length : Int), (i : Int), ()) = some (xs.flatten, ())
  | 0, i, 0, _, h => absurd h (by decide)
  | d + 1, i, 0, _, h => absurd h (by omega)
  | 0, i, k + 1, hi, hk => by
    rw [slices_Concat_byte_byte.l2_eq, if_neg (by simp; omega), List.take_of_length_le (by omega)]
  | d + 1, i, k + 1, hi, hk => by
    have hi' : i < xs.length := by omega
    have e : ((i : Int)).toNat = i := by omega
    have e2 : xs.getD i [] = xs[i] := by rw [List.getD_eq_getElem?_getD, List.getElem?_eq_getElem hi']; rfl
    have e3 : (xs.take i).flatten ++ xs[i] = (xs.take (i + 1)).flatten := by
      rw [List.take_add_one, List.getElem?_eq_getElem hi', List.flatten_append]
      simp only [Option.toList_some, List.flatten_cons, List.flatten_nil, List.append_nil]
    have e4 : (xs.take (i + 1)).flatten.length ≤ xs.flatten.length := by
      have : xs.flatten = (xs.take (i + 1)).flatten ++ (xs.drop (i + 1)).flatten := by rw [← List.flatten_append, List.take_append_drop]
      rw [this, List.length_append]; omega
    rw [← e3, List.length_append] at e4
    rw [slices_Concat_byte_byte.l2_eq, if_pos (by simp; omega), if_pos (by omega), if_pos (by omega), e, e2, if_pos (lim_of (by omega)), e3, wr64 (by omega) (by omega), show (i : Int) + 1 = ((i + 1 : Nat) : Int) by omega]
    exact cat_l2 n m hl hx d (i + 1) k (by omega) (by omega)
theorem grow_is (n : Nat) {c : Int} (h0 : 0 ≤ c) (h : c ≤ 4294967296) : slices_Grow_byte_byte.f n ((), c, ()) = some ([], ()) := by
  have e : wr .i64 (c - 0) = c := by rw [wr64 (by omega) (by omega)]; omega
  rw [slices_Grow_byte_byte.eq, if_neg (by simp; omega), e]
  by_cases hc : 0 < c
  · rw [if_pos (by simp; omega), if_pos (by omega), if_pos (by omega), if_pos hc, if_pos (lim_of h), if_pos (by omega), if_pos (by omega)]
    rfl
  · rw [if_neg (by simp; omega)]
theorem cat_is {n : Nat} {xs : List (List Int)} (hl : xs.flatten.length ≤ 4294967296) (hx : xs.length < n) (hn : n < 4611686018427387904) : slices_Concat_byte_byte.f n (xs, ()) = some (xs.flatten, ()) := by
  have h1 := cat_l0 n n hl (by omega) xs.length 0 n (by omega) (by omega)
  have h2 := cat_l2 n n hl (by omega) xs.length 0 n (by omega) (by omega)
  rw [show ((0 : Nat) : Int) = 0 from rfl, show (xs.take 0).flatten = [] from rfl] at h1 h2
  rw [show (((List.length ([] : List Int)) : Nat) : Int) = 0 from rfl] at h1
  have h3 := grow_is n (c := ((xs.flatten.length : Nat) : Int)) (by omega) (by omega)
  rw [slices_Concat_byte_byte.eq, h1, Option.bind_some]
  show (slices_Grow_byte_byte.f n ((), ((xs.flatten.length : Nat) : Int), ())).bind _ = _
  rw [h3, Option.bind_some]
  show (slices_Concat_byte_byte.l2 n n n ([], xs, (xs.length : Int), 0, ())).bind _ = _
  rw [h2, Option.bind_some]
/-- numbers of so many bytes, one behind the other -/
def les : List (Nat × Int) → List Int
  | [] => []
  | p :: r => le p.1 p.2 ++ les r
theorem les_append : ∀ (l m : List (Nat × Int)), les (l ++ m) = les l ++ les m
  | [], m => rfl
  | p :: l, m => by show le p.1 p.2 ++ les (l ++ m) = (le p.1 p.2 ++ les l) ++ les m; rw [les_append l m, List.append_assoc]
theorem les_by : ∀ l, By (les l)
  | [] => By.nil
  | p :: l => (le_by _ _).append (les_by l)
theorem numbers_l0 (n m : Nat) (hn : 9 ≤ n) {ps : List (Nat × Int)} (hp : ∀ p ∈ ps, p.1 ≤ 8 ∧ 0 ≤ p.2 ∧ p.2 < 18446744073709551616) (hx : ps.length ≤ 1000) : ∀ (d i k : Nat), i + d = ps.length → d < k → ref18_Numbers.l0 n m k (ps.map (·.2), ps.map (fun p => (p.1 : Int)), les (ps.take i), (i : Int), ()) = some (les ps, ())
  | 0, i, 0, _, h => absurd h (by decide)
  | d + 1, i, 0, _, h => absurd h (by omega)
  | 0, i, k + 1, hi, hk => by
    rw [ref18_Numbers.l0_eq, if_neg (by simp; omega), List.take_of_length_le (by omega)]
  | d + 1, i, k + 1, hi, hk => by
    have hi' : i < ps.length := by omega
    have e : ((i : Int)).toNat = i := by omega
    have e1 : (ps.map (·.2)).getD i 0 = ps[i].2 := by rw [List.getD_eq_getElem?_getD, List.getElem?_map, List.getElem?_eq_getElem hi']; rfl
    have e2 : (ps.map (fun p => (p.1 : Int))).getD i 0 = (ps[i].1 : Int) := by rw [List.getD_eq_getElem?_getD, List.getElem?_map, List.getElem?_eq_getElem hi']; rfl
    have e3 : les (ps.take i) ++ le ps[i].1 ps[i].2 = les (ps.take (i + 1)) := by
      rw [List.take_add_one, List.getElem?_eq_getElem hi', les_append]; simp only [Option.toList_some, les, List.append_nil]
    have hl : ∀ l : List (Nat × Int), (∀ p ∈ l, p.1 ≤ 8) → (les l).length ≤ 8 * l.length := by
      intro l
      induction l with
      | nil => intro _; simp [les]
      | cons p l ih =>
        intro h
        have h1 := ih (fun q hq => h q (List.mem_cons_of_mem _ hq))
        have h2 := h p (List.mem_cons_self ..)
        show (le p.1 p.2 ++ les l).length ≤ 8 * (l.length + 1)
        rw [List.length_append, le_len]; omega
    have e4 := hl (ps.take i) (fun p h => (hp p (List.mem_of_mem_take h)).1)
    rw [List.length_take] at e4
    have hpi := hp ps[i] (List.getElem_mem hi')
    rw [ref18_Numbers.l0_eq, if_pos (by simp; omega), if_pos (by omega), if_pos (by simp; omega), if_pos (by omega), if_pos (by simp; omega), e, e1, e2, rput_is hn _ _ hpi.2.1 hpi.2.2 (by omega) (by omega), Option.bind_some, Int.toNat_natCast, le_len, if_pos (lim_of (by omega)), e3, wr64 (by omega) (by omega), show (i : Int) + 1 = ((i + 1 : Nat) : Int) by omega]
    exact numbers_l0 n m hn hp hx d (i + 1) k (by omega) (by omega)
theorem numbers_is {n : Nat} (hn : 9 ≤ n) {ps : List (Nat × Int)} (hp : ∀ p ∈ ps, p.1 ≤ 8 ∧ 0 ≤ p.2 ∧ p.2 < 18446744073709551616) (hx : ps.length ≤ 1000) (hx' : ps.length < n) : ref18_Numbers.f n (ps.map (·.2), ps.map (fun p => (p.1 : Int)), ()) = some (les ps, ()) := by
  rw [ref18_Numbers.eq]
  have := numbers_l0 n n hn hp hx ps.length 0 n (by omega) (by omega)
  rw [show ((0 : Nat) : Int) = 0 from rfl, show les (ps.take 0) = [] from rfl] at this
  rw [this, Option.bind_some]
end Go.Proofs.YtdbaglogmdkbpaaDoor.Vm
