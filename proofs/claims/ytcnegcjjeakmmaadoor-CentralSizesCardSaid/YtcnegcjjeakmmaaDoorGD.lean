/- Joined texts of own work. Conditions: as each theorem states them. -/
import Derived.Test.YtcnegcjjeakmmaaDoorGC
import Derived.Test.YtcnegcjjeakmmaaDoorYz
namespace Go.Proofs.YtcnegcjjeakmmaaDoor.Vm
open Go Go.RowKit
set_option linter.unusedVariables false
set_option linter.unusedSimpArgs false
set_option maxRecDepth 10000
@[reducible] def Rec : Type := Hdr × Int × Int × Unit
/-- the numbers are within their bounds -/
structure RcOk (c : Rec) : Prop where
  hd : HdOk c.1
  dk : 0 ≤ c.2.1 ∧ c.2.1 < 4294967296
  os : 0 ≤ c.2.2.1 ∧ c.2.2.1 < 18446744073709551616
theorem ccheck_is {n : Nat} (hn : 256 ≤ n) (x : Rec × Unit) : central_check.f n x = some (chkV n x.1.1, ()) := by
  obtain ⟨c, u⟩ := x
  refine (central_check.eq n c).trans ?_
  have hn2 : name_Check.f n (c.1.2.2.2.2.2.1, ()) = some (nmV n c.1.2.2.2.2.2.1, ()) := name_is hn (c.1.2.2.2.2.2.1, ())
  have tail : (stamp_Check.f n (c.1.2.1, ())).bind (fun y3 => (if (y3.1 != (0 : Int)) = true then (some (y3.1, ())) else (name_Check.f n (c.1.2.2.2.2.2.1, ())).bind (fun y4 => (some (y4.1, ()))))) = some (if StOk c.1.2.1 then nmV n c.1.2.2.2.2.2.1 else 41, ()) := by
    rw [stCheck_is, Option.bind_some]
    unfold stE
    by_cases h3 : StOk c.1.2.1 <;> simp [h3, hn2]
  unfold chkV
  by_cases h1 : c.1.1 = 0
  · rw [if_neg (by simp [h1]), Option.bind_some, if_neg Bool.false_ne_true]
    exact tail.trans (by simp [h1])
  · rw [if_pos (by simp [h1]), Option.bind_some]
    by_cases h2 : c.1.1 = 8
    · rw [if_neg (by simp [h2])]
      exact tail.trans (by simp [h2])
    · rw [if_pos (by simp [h2]), if_pos ⟨h1, h2⟩]
theorem bindE {α β : Type} {x : Option α} {a : α} {f : α → Option β} (h : x = some a) : x.bind f = f a := by rw [h]; rfl
/-- what doesn't fit -/
def fit1 (k : Nat) (m x : Int) : List (Nat × Int) := if m ≤ x then [(k, x)] else []
def exL (c : Rec) : List (Nat × Int) := fit1 8 4294967295 c.1.2.2.2.2.1 ++ (fit1 8 4294967295 c.1.2.2.2.1 ++ (fit1 8 4294967295 c.2.2.1 ++ fit1 4 65535 c.2.1))
def exN (c : Rec) : Nat := (les (exL c)).length
def exB (c : Rec) : List Int := if exN c = 0 then [] else les ((2, 1) :: (2, (exN c : Int)) :: exL c)
theorem exN_le (c : Rec) : exN c ≤ 28 := by
  have hl : ∀ (s : Nat) (M x : Int), (les (fit1 s M x)).length ≤ s := fun s M x => by
    unfold fit1
    split
    · show (le s x ++ []).length ≤ s
      rw [List.append_nil, le_len]; omega
    · simp [les]
  have l1 := hl 8 4294967295 c.1.2.2.2.2.1
  have l2 := hl 8 4294967295 c.1.2.2.2.1
  have l3 := hl 8 4294967295 c.2.2.1
  have l4 := hl 4 65535 c.2.1
  unfold exN exL
  rw [les_append, les_append, les_append, List.length_append, List.length_append, List.length_append]
  omega
theorem exB_len (c : Rec) : (exB c).length = if exN c = 0 then 0 else 4 + exN c := by
  unfold exB
  split
  · rfl
  · show (le 2 1 ++ (le 2 _ ++ les (exL c))).length = _
    rw [List.length_append, List.length_append, le_len, le_len]
    unfold exN; omega
def fdL (c : Rec) : List (Int × Int × Int × Unit) := [(c.1.2.2.2.2.1, 4294967295, 8, ()), (c.1.2.2.2.1, 4294967295, 8, ()), (c.2.2.1, 4294967295, 8, ()), (wr .u64 c.2.1, 65535, 4, ())]
theorem ex_step {n m k : Nat} (hn : 9 ≤ n) {F : List (Int × Int × Int × Unit)} (hF : F.length = 4) {out : List Int} {i : Nat} (hi : i < 4) (ho : out.length ≤ 1000) {x M : Int} {s : Nat} (hx : F[i]? = some (x, M, (s : Int), ())) (hs : s ≤ 8) :
    central_extra.l0 n m (k + 1) (out, F, 4, (i : Int), ()) = central_extra.l0 n m k (out ++ les (fit1 s M x), F, 4, ((i + 1 : Nat) : Int), ()) := by
  have hg : F.getD (Int.toNat (i : Int)) ((0 : Int), (0 : Int), (0 : Int), ()) = (x, M, (s : Int), ()) := by
    rw [Int.toNat_natCast, List.getD_eq_getElem?_getD, hx]; rfl
  rw [central_extra.l0_eq, if_pos (by simp; omega), if_pos (by omega), if_pos (by rw [hF]; omega), hg]
  have e1 : wr .i64 ((i : Int) + 1) = ((i + 1 : Nat) : Int) := by rw [wr64 (by omega) (by omega)]; omega
  have hp : little_Put.f n (x, (s : Int), ()) = some (le s x, ()) := put_is hn _ _ (by omega) (by omega)
  unfold fit1
  by_cases h : M ≤ x
  · rw [if_pos (by simpa using h), if_pos h]
    refine (bindE (a := (out ++ le s x, F, 4, (i : Int), ())) ((bindE hp).trans (if_pos (lim_of (by show (out.length : Int) + ((le _ _).length : Int) ≤ _; rw [le_len]; omega))))).trans ?_
    show central_extra.l0 n m k (out ++ le s x, F, 4, wr .i64 ((i : Int) + 1), ()) = _
    rw [e1]
    simp [les]
  · rw [if_neg (by simpa using h), if_neg h, Option.bind_some]
    show central_extra.l0 n m k (out, F, 4, wr .i64 ((i : Int) + 1), ()) = _
    rw [e1]
    simp [les]
theorem ex_loop {n m k : Nat} (hn : 9 ≤ n) (c : Rec) (hc : RcOk c) : central_extra.l0 n m (k + 5) ([], fdL c, 4, 0, ()) = some (les (exL c), ()) := by
  have hw : wr .u64 c.2.1 = c.2.1 := wru64 hc.dk.1 (by have := hc.dk.2; omega)
  have hl : ∀ (s : Nat) (M x : Int), s ≤ 8 → (les (fit1 s M x)).length ≤ 8 := fun s M x hs => by
    unfold fit1
    split
    · show (le s x ++ []).length ≤ 8
      rw [List.append_nil, le_len]; exact hs
    · simp [les]
  have l1 := hl 8 4294967295 c.1.2.2.2.2.1 (by omega)
  have l2 := hl 8 4294967295 c.1.2.2.2.1 (by omega)
  have l3 := hl 8 4294967295 c.2.2.1 (by omega)
  refine (ex_step hn (i := 0) (s := 8) rfl (by omega) (by simp) rfl (by omega)).trans ?_
  refine (ex_step hn (i := 1) (s := 8) rfl (by omega) (by simp; omega) rfl (by omega)).trans ?_
  refine (ex_step hn (i := 2) (s := 8) rfl (by omega) (by simp; omega) rfl (by omega)).trans ?_
  refine (ex_step hn (i := 3) (s := 4) rfl (by omega) (by simp; omega) rfl (by omega)).trans ?_
  rw [central_extra.l0_eq, if_neg (by simp), hw]
  unfold exL
  simp [les_append]
theorem extra_is {n : Nat} (hn : 1000 ≤ n) (hn' : n ≤ 1000000) (c : Rec) (hc : RcOk c) : central_extra.f n (c, ()) = some (exB c, ()) := by
  obtain ⟨k, rfl⟩ : ∃ k, n = k + 5 := ⟨n - 5, by omega⟩
  rw [central_extra.eq, central_fields.eq, Option.bind_some]
  refine (congrArg (Option.bind · _) (ex_loop (n := k + 5) (m := k + 5) (by omega) c hc)).trans ?_
  rw [Option.bind_some]
  have h28 := exN_le c
  unfold exB
  by_cases h : exN c = 0
  · rw [if_pos (by show (((exN c : Nat) : Int) == 0) = true; rw [h]; rfl), if_pos h]
  · rw [if_neg (by show ¬ (((exN c : Nat) : Int) == 0) = true; rw [beq_iff_eq]; omega), if_neg h, put_is (by omega) _ _ (by decide) (by decide), Option.bind_some]
    have e : wr .u64 (((les (exL c)).length : Nat) : Int) = (exN c : Int) := wru64 (by omega) (by unfold exN at h28; omega)
    show (little_Put.f _ (wr .u64 (((les (exL c)).length : Nat) : Int), 2, ())).bind _ = _
    rw [e, put_is (by omega) _ _ (by decide) (by decide), Option.bind_some]
    show (slices_Concat_byte_byte.f _ ([le 2 1, le 2 (exN c : Int), les (exL c)], ())).bind _ = _
    rw [cat_is (by
      have : (les (exL c)).length = exN c := rfl
      simp [le_len]; omega) (by show 3 < k + 5; omega) (by omega), Option.bind_some]
    simp [les]
/-- a record's numbers -/
def mn (m x : Int) : Int := if m < x then m else x
def cdL (v m t d su p z nl ex dk os : Int) : List (Nat × Int) := [(4, 33639248), (2, 45), (2, v), (2, 2048), (2, m), (2, t), (2, d), (4, su), (4, p), (4, z), (2, nl), (2, ex), (2, 0), (2, dk), (2, 0), (4, 0), (4, os)]
def cN (c : Rec) (m t d : Int) : List (Nat × Int) := cdL (if exN c = 0 then 20 else 45) m t d c.1.2.2.1 (mn 4294967295 c.1.2.2.2.1) (mn 4294967295 c.1.2.2.2.2.1) (c.1.2.2.2.2.2.1.size : Int) ((exB c).length : Int) (mn 65535 c.2.1) (mn 4294967295 c.2.2.1)
def cB (c : Rec) (m t d : Int) : List Int := les (cN c m t d) ++ (sbytes c.1.2.2.2.2.2.1 ++ exB c)
def wC (c : Rec) : List Int := cB c c.1.1 (timeN c.1.2.1) (dateN c.1.2.1)
theorem cN_len (c : Rec) (m t d : Int) : (les (cN c m t d)).length = 46 := rfl
theorem cB_len (c : Rec) (m t d : Int) : (cB c m t d).length = 46 + c.1.2.2.2.2.2.1.size + (exB c).length := by
  unfold cB
  rw [List.length_append, List.length_append, cN_len, sbytes_len]; omega
theorem exB_by (c : Rec) : By (exB c) := by
  unfold exB
  split
  · exact By.nil
  · exact les_by _
theorem cB_by (c : Rec) (m t d : Int) : By (cB c m t d) := (les_by _).append ((sbytes_by _).append (exB_by c))
theorem w1_is {n : Nat} (hn : 9 ≤ n) (x : Int) (s : Nat) (hs : s ≤ 8) (out : List Int) (ho : out.length ≤ 1000) : central_Write_1.f n (x, (s : Int), (out, ()), ()) = some ((out ++ le s x, ()), ()) := by
  rw [central_Write_1.eq, put_is hn _ _ (by omega) (by omega), Option.bind_some, if_pos (lim_of (by show (out.length : Int) + ((le _ _).length : Int) ≤ _; rw [le_len]; simp; omega))]
  simp
@[reducible] def Bx : Type := Int × Int × Int × Int × Int × Int × Int × Int × Int × Int × ByteArray × Int × Int × Unit
theorem cw_l0 {n m : Nat} (hn : 9 ≤ n) (B : Bx) (mo : List Int) {xs : List Int} (hx : xs.length ≤ 50) : ∀ (d i k : Nat) (out : List Int), i + d = xs.length → d < k → out.length + 2 * d ≤ 1000 → central_Write.l0 n m k (B, mo, (out, ()), ((), ()), xs, (xs.length : Int), (i : Int), ()) = some (B, mo, (out ++ les ((xs.drop i).map fun x => (2, x)), ()), ((), ()), ())
  | 0, i, 0, _, _, h, _ => absurd h (by decide)
  | d + 1, i, 0, _, _, h, _ => absurd h (by omega)
  | 0, i, k + 1, out, hi, hk, ho => by
    obtain ⟨b0, b1, b2, b3, b4, b5, b6, b7, b8, b9, b10, b11, b12, u⟩ := B
    rw [central_Write.l0_eq, if_neg (by simp; omega), List.drop_eq_nil_of_le (by omega)]
    simp [les]
  | d + 1, i, k + 1, out, hi, hk, ho => by
    obtain ⟨b0, b1, b2, b3, b4, b5, b6, b7, b8, b9, b10, b11, b12, u⟩ := B
    have hi' : i < xs.length := by omega
    have e1 : wr .i64 ((i : Int) + 1) = ((i + 1 : Nat) : Int) := by rw [wr64 (by omega) (by omega)]; omega
    have e2 : xs.getD (Int.toNat (i : Int)) 0 = xs[i] := by rw [Int.toNat_natCast, getD_eq hi']
    have h2 := w1_is hn xs[i] 2 (by omega) out (by omega)
    rw [central_Write.l0_eq, if_pos (by simp; omega), if_pos (by omega), if_pos (by omega), e2, e1]
    refine (congrArg (Option.bind · _) h2).trans ?_
    rw [Option.bind_some]
    refine (cw_l0 hn _ mo hx d (i + 1) k _ (by omega) (by omega) (by rw [List.length_append, le_len]; omega)).trans ?_
    rw [List.drop_eq_getElem_cons hi', List.map_cons]
    show some (_, mo, (out ++ le 2 xs[i] ++ les _, ()), _) = some (_, mo, (out ++ (le 2 xs[i] ++ les _), ()), _)
    rw [List.append_assoc]
theorem cw_l2 {n m : Nat} (hn : 9 ≤ n) (B : Bx) (mo : List Int) {xs : List Int} (hx : xs.length ≤ 50) : ∀ (d i k : Nat) (out : List Int), i + d = xs.length → d < k → out.length + 2 * d ≤ 1000 → central_Write.l2 n m k (B, mo, (out, ()), ((), ()), xs, (xs.length : Int), (i : Int), ()) = some (B, mo, (out ++ les ((xs.drop i).map fun x => (2, x)), ()), ((), ()), ())
  | 0, i, 0, _, _, h, _ => absurd h (by decide)
  | d + 1, i, 0, _, _, h, _ => absurd h (by omega)
  | 0, i, k + 1, out, hi, hk, ho => by
    obtain ⟨b0, b1, b2, b3, b4, b5, b6, b7, b8, b9, b10, b11, b12, u⟩ := B
    rw [central_Write.l2_eq, if_neg (by simp; omega), List.drop_eq_nil_of_le (by omega)]
    simp [les]
  | d + 1, i, k + 1, out, hi, hk, ho => by
    obtain ⟨b0, b1, b2, b3, b4, b5, b6, b7, b8, b9, b10, b11, b12, u⟩ := B
    have hi' : i < xs.length := by omega
    have e1 : wr .i64 ((i : Int) + 1) = ((i + 1 : Nat) : Int) := by rw [wr64 (by omega) (by omega)]; omega
    have e2 : xs.getD (Int.toNat (i : Int)) 0 = xs[i] := by rw [Int.toNat_natCast, getD_eq hi']
    have h2 := w1_is hn xs[i] 2 (by omega) out (by omega)
    rw [central_Write.l2_eq, if_pos (by simp; omega), if_pos (by omega), if_pos (by omega), e2, e1]
    refine (congrArg (Option.bind · _) h2).trans ?_
    rw [Option.bind_some]
    refine (cw_l2 hn _ mo hx d (i + 1) k _ (by omega) (by omega) (by rw [List.length_append, le_len]; omega)).trans ?_
    rw [List.drop_eq_getElem_cons hi', List.map_cons]
    show some (_, mo, (out ++ le 2 xs[i] ++ les _, ()), _) = some (_, mo, (out ++ (le 2 xs[i] ++ les _), ()), _)
    rw [List.append_assoc]
theorem mn_is {a x y : Int} (h : x = y) : (if a < x then a else x) = mn a y := by rw [h]; rfl
theorem cwrite_is {n : Nat} (hn : 1000 ≤ n) (hn' : n ≤ 1000000) (c : Rec) (hk : RcOk c) : central_Write.f n (c, ()) = some (if chkV n c.1 = 0 then (wC c, 0, ()) else ([], chkV n c.1, ())) := by
  rw [central_Write.eq, ccheck_is (by omega), Option.bind_some]
  by_cases hc : chkV n c.1 = 0
  · obtain ⟨h1, h2, h3, h4, h5⟩ := chk_zero hc
    obtain ⟨p1, p2, p3, p4, _⟩ := h2.nums
    have h28 := exN_le c
    have hel := exB_len c
    have w1 : wr .u64 c.1.1 = c.1.1 := wru64 (by omega) (by omega)
    have w2 : wr .u64 (timeN c.1.2.1) = timeN c.1.2.1 := wru64 (by omega) (by omega)
    have w3 : wr .u64 (dateN c.1.2.1) = dateN c.1.2.1 := wru64 (by omega) (by omega)
    have w4 : wr .u64 c.1.2.2.1 = c.1.2.2.1 := wru64 hk.hd.sum.1 (by have := hk.hd.sum.2; omega)
    have w5 : wr .u64 (c.1.2.2.2.2.2.1.size : Int) = (c.1.2.2.2.2.2.1.size : Int) := wru64 (by omega) (by omega)
    have w6 : wr .u64 c.2.1 = c.2.1 := wru64 hk.dk.1 (by have := hk.dk.2; omega)
    have w7 : wr .u64 ((exB c).length : Int) = ((exB c).length : Int) := wru64 (by omega) (by rw [hel]; split <;> omega)
    rw [if_neg (by simp [hc]), stPack_is, Option.bind_some, if_pos h2, extra_is hn hn' c hk, Option.bind_some, if_pos hc]
    obtain ⟨v, hv⟩ : ∃ v : Int, (if (decide (((exB c).length : Int) > 0)) = true then (45 : Int) else 20) = v := ⟨_, rfl⟩
    have hv2 : v = if exN c = 0 then 20 else 45 := by
      rw [← hv, hel]
      by_cases h0 : exN c = 0
      · simp [h0]
      · rw [if_neg h0, if_neg h0, if_pos (by simp; omega)]
    have hj : (if (decide (((exB c).length : Int) > 0)) = true then (some ((c.1.1, c.1.2.1.1, c.1.2.1.2.1, c.1.2.1.2.2.1, c.1.2.1.2.2.2.1, c.1.2.1.2.2.2.2.1, c.1.2.1.2.2.2.2.2.1, c.1.2.2.1, c.1.2.2.2.1, c.1.2.2.2.2.1, c.1.2.2.2.2.2.1, c.2.1, c.2.2.1, ()), dateN c.1.2.1, timeN c.1.2.1, exB c, (45 : Int), ())) else (some ((c.1.1, c.1.2.1.1, c.1.2.1.2.1, c.1.2.1.2.2.1, c.1.2.1.2.2.2.1, c.1.2.1.2.2.2.2.1, c.1.2.1.2.2.2.2.2.1, c.1.2.2.1, c.1.2.2.2.1, c.1.2.2.2.2.1, c.1.2.2.2.2.2.1, c.2.1, c.2.2.1, ()), dateN c.1.2.1, timeN c.1.2.1, exB c, (20 : Int), ()))) = some ((c.1.1, c.1.2.1.1, c.1.2.1.2.1, c.1.2.1.2.2.1, c.1.2.1.2.2.2.1, c.1.2.1.2.2.2.2.1, c.1.2.1.2.2.2.2.2.1, c.1.2.2.1, c.1.2.2.2.1, c.1.2.2.2.2.1, c.1.2.2.2.2.2.1, c.2.1, c.2.2.1, ()), dateN c.1.2.1, timeN c.1.2.1, exB c, v, ()) := by
      rw [← hv]; split <;> rfl
    refine (bindE hj).trans ?_
    refine (bindE (w1_is (by omega) 33639248 4 (by omega) [] (by simp))).trans ?_
    refine (bindE (cw_l0 (n := n) (m := n) (by omega) _ (exB c) (xs := [45, v, 2048, wr .u64 c.1.1, wr .u64 (timeN c.1.2.1), wr .u64 (dateN c.1.2.1)]) (by simp) 6 0 n ([] ++ le 4 33639248) rfl (by omega) (by simp [le_len]))).trans ?_
    rw [w1, w2, w3]
    refine (bindE (w1_is (by omega) (wr .u64 c.1.2.2.1) 4 (by omega) _ (by simp [le_len, les]))).trans ?_
    rw [w4]
    refine (bindE (w1_is (by omega) (mn 4294967295 c.1.2.2.2.1) 4 (by omega) _ (by simp [le_len, les]))).trans ?_
    refine (bindE (w1_is (by omega) (mn 4294967295 c.1.2.2.2.2.1) 4 (by omega) _ (by simp [le_len, les]))).trans ?_
    refine (bindE (cw_l2 (n := n) (m := n) (by omega) _ (exB c) (xs := [wr .u64 (c.1.2.2.2.2.2.1.size : Int), wr .u64 ((exB c).length : Int), 0, mn 65535 (wr .u64 c.2.1), 0]) (by simp) 5 0 n _ rfl (by omega) (by simp [le_len, les]))).trans ?_
    rw [w5, w6, w7]
    refine (bindE (w1_is (by omega) 0 4 (by omega) _ (by simp [le_len, les]))).trans ?_
    refine (bindE (w1_is (by omega) (mn 4294967295 c.2.2.1) 4 (by omega) _ (by simp [le_len, les]))).trans ?_
    have hcat : ∀ X : List Int, X = les (cN c c.1.1 (timeN c.1.2.1) (dateN c.1.2.1)) → slices_Concat_byte_byte.f n ([X, sbytes c.1.2.2.2.2.2.1, exB c], ()) = some (wC c, ()) := fun X hX => by
      have e : [X, sbytes c.1.2.2.2.2.2.1, exB c].flatten = wC c := by
        rw [hX]; unfold wC cB; simp
      have hl := cB_len c c.1.1 (timeN c.1.2.1) (dateN c.1.2.1)
      rw [cat_is (by rw [e]; unfold wC; rw [hl, hel]; split <;> omega) (by simp; omega) (by omega), e]
    rw [if_pos (lim_of (by show ((c.1.2.2.2.2.2.1.size : Nat) : Int) ≤ _; omega))]
    refine (bindE (hcat _ ?_)).trans rfl
    unfold cN cdL
    rw [← hv2]
    simp [les]
  · rw [if_pos (by simp [hc]), if_neg hc]
theorem csize_is {n : Nat} (hn : 1000 ≤ n) (hn' : n ≤ 1000000) (c : Rec) (hk : RcOk c) (hs : c.1.2.2.2.2.2.1.size ≤ 65535) : central_Size.f n (c, ()) = some (46 + (c.1.2.2.2.2.2.1.size : Int) + ((exB c).length : Int), ()) := by
  have hel := exB_len c
  have h28 := exN_le c
  have h32 : (exB c).length ≤ 32 := by rw [hel]; split <;> omega
  rw [central_Size.eq, extra_is hn hn' c hk, Option.bind_some, if_neg (by omega), wr64 (x := 46 + (c.1.2.2.2.2.2.1.size : Int)) (by omega) (by omega), wr64 (x := 46 + (c.1.2.2.2.2.2.1.size : Int) + ((exB c).length : Int)) (by omega) (by omega)]
end Go.Proofs.YtcnegcjjeakmmaaDoor.Vm

namespace Go.Proofs.YtcnegcjjeakmmaaDoor.Vm
open Go Go.RowKit
set_option linter.unusedVariables false
set_option linter.unusedSimpArgs false
set_option maxRecDepth 100000
theorem alive19 : law19_alive.f 1000 () = some (true, ()) := by kernel_rfl
end Go.Proofs.YtcnegcjjeakmmaaDoor.Vm

namespace Go.Proofs.YtcnegcjjeakmmaaDoor.Vm
open Go Go.RowKit
set_option linter.unusedVariables false
set_option linter.unusedSimpArgs false
set_option maxRecDepth 10000
@[reducible] def bxOf (c : Rec) : Bx := (c.1.1, c.1.2.1.1, c.1.2.1.2.1, c.1.2.1.2.2.1, c.1.2.1.2.2.2.1, c.1.2.1.2.2.2.2.1, c.1.2.1.2.2.2.2.2.1, c.1.2.2.1, c.1.2.2.2.1, c.1.2.2.2.2.1, c.1.2.2.2.2.2.1, c.2.1, c.2.2.1, ())
theorem rex_step {n : Nat} (hn : 9 ≤ n) {β : Type} (g : List Int → β) {x M : Int} {s : Nat} (hx : 0 ≤ x) (hx' : x < 18446744073709551616) (hs : s ≤ 8) {out : List Int} (ho : out.length ≤ 1000) :
    (if (decide (x ≥ M)) = true then (ref07_Put.f n (x, (s : Int), ())).bind (fun y => (if ((List.length out : Nat) : Int) + ((List.length y.1 : Nat) : Int) ≤ lim then (some (g (out ++ y.1))) else none)) else (some (g out))) = some (g (out ++ les (fit1 s M x))) := by
  have hp : ref07_Put.f n (x, (s : Int), ()) = some (le s x, ()) := rput_is hn _ _ hx hx' (by omega) (by omega)
  unfold fit1
  by_cases h : M ≤ x
  · rw [if_pos (by simpa using h), if_pos h]
    refine (bindE hp).trans ?_
    rw [if_pos (lim_of (by show (out.length : Int) + ((le _ _).length : Int) ≤ _; rw [le_len]; omega))]
    simp [les]
  · rw [if_neg (by simpa using h), if_neg h]
    simp [les]
theorem fit1_len (s : Nat) (M x : Int) : (les (fit1 s M x)).length ≤ s := by
  unfold fit1
  split
  · show (le s x ++ []).length ≤ s
    rw [List.append_nil, le_len]; omega
  · simp [les]
theorem rextra_is {n : Nat} (hn : 1000 ≤ n) (hn' : n ≤ 1000000) (c : Rec) (hc : RcOk c) : ref19_extra.f n (c, ()) = some (exB c, ()) := by
  have hw : wr .u64 c.2.1 = c.2.1 := wru64 hc.dk.1 (by have := hc.dk.2; omega)
  have l1 := fit1_len 8 4294967295 c.1.2.2.2.2.1
  have l2 := fit1_len 8 4294967295 c.1.2.2.2.1
  have l3 := fit1_len 8 4294967295 c.2.2.1
  have h28 := exN_le c
  rw [ref19_extra.eq]
  refine (bindE (rex_step (n := n) (by omega) (fun o => (bxOf c, o, ())) (M := 4294967295) (s := 8) hc.hd.sz.1 hc.hd.sz.2 (by omega) (out := []) (by simp))).trans ?_
  refine (bindE (rex_step (n := n) (by omega) (fun o => (bxOf c, o, ())) (M := 4294967295) (s := 8) hc.hd.pk.1 hc.hd.pk.2 (by omega) (by simp; omega))).trans ?_
  refine (bindE (rex_step (n := n) (by omega) (fun o => (bxOf c, o, ())) (M := 4294967295) (s := 8) hc.os.1 hc.os.2 (by omega) (by simp; omega))).trans ?_
  have h4 := rex_step (n := n) (by omega) (fun o => (o, ())) (x := c.2.1) (M := 65535) (s := 4) hc.dk.1 (by have := hc.dk.2; omega) (by omega) (out := [] ++ les (fit1 8 4294967295 c.1.2.2.2.2.1) ++ les (fit1 8 4294967295 c.1.2.2.2.1) ++ les (fit1 8 4294967295 c.2.2.1)) (by simp; omega)
  dsimp only
  rw [hw]
  refine (bindE h4).trans ?_
  have e : [] ++ les (fit1 8 4294967295 c.1.2.2.2.2.1) ++ les (fit1 8 4294967295 c.1.2.2.2.1) ++ les (fit1 8 4294967295 c.2.2.1) ++ les (fit1 4 65535 c.2.1) = les (exL c) := by
    unfold exL
    simp [les_append]
  rw [e]
  unfold exB
  by_cases h : exN c = 0
  · rw [if_pos (by show (((exN c : Nat) : Int) == 0) = true; rw [h]; rfl), if_pos h]
    rw [show les (exL c) = [] from List.eq_nil_of_length_eq_zero h]
  · rw [if_neg (by show ¬ (((exN c : Nat) : Int) == 0) = true; rw [beq_iff_eq]; omega), if_neg h]
    have e1 : wr .u8 (((les (exL c)).length : Nat) : Int) = (exN c : Int) := by rw [wru8]; unfold exN at h28 ⊢; omega
    have e2 : ([[1, 0, wr .u8 (((les (exL c)).length : Nat) : Int), 0], les (exL c)] : List (List Int)).flatten = les ((2, 1) :: (2, (exN c : Int)) :: exL c) := by
      rw [e1]
      have : (exN c : Int) % 256 = exN c := by omega
      have : (exN c : Int) / 256 % 256 = 0 := by omega
      simp [les, le, *]
    have hj := join_is (n := n) (xs := [[1, 0, wr .u8 (((les (exL c)).length : Nat) : Int), 0], les (exL c)]) (by
      have : (les (exL c)).length = exN c := rfl
      simp; omega) (by show 2 < n; omega) (by omega)
    refine (bindE hj).trans ?_
    rw [e2]
theorem least_is (n : Nat) (x M : Int) : ref19_least.f n (x, M, ()) = some (mn M x, ()) := by
  rw [ref19_least.eq]
  unfold mn
  by_cases h : x < M
  · rw [if_pos (by simpa using h), if_neg (by omega)]
  · rw [if_neg (by simpa using h)]
    by_cases h2 : M < x
    · rw [if_pos h2]
    · rw [if_neg h2, show M = x by omega]
theorem mn_range {M x : Int} (hM : 0 ≤ M) (hx : 0 ≤ x) : 0 ≤ mn M x ∧ mn M x ≤ M ∧ mn M x ≤ x := by unfold mn; split <;> omega
theorem cdL_range {v m t d su p z nl ex dk os : Int} (h : ∀ x ∈ [v, m, t, d, su, p, z, nl, ex, dk, os], 0 ≤ x ∧ x < 18446744073709551616) : ∀ q ∈ cdL v m t d su p z nl ex dk os, q.1 ≤ 8 ∧ 0 ≤ q.2 ∧ q.2 < 18446744073709551616 := by
  intro q hq
  unfold cdL at hq
  simp only [List.mem_cons, List.not_mem_nil, or_false] at hq h
  rcases hq with rfl | rfl | rfl | rfl | rfl | rfl | rfl | rfl | rfl | rfl | rfl | rfl | rfl | rfl | rfl | rfl | rfl
  all_goals (refine ⟨Nat.le_of_ble_eq_true rfl, ?_⟩; first | (constructor <;> decide) | exact h _ (by simp))
theorem rcbytes_is {n : Nat} (hn : 1000 ≤ n) (hn' : n ≤ 1000000) (c : Rec) (hk : RcOk c) (hs : c.1.2.2.2.2.2.1.size ≤ 100000) {m t d : Int} (hm : 0 ≤ m ∧ m < 18446744073709551616) (ht : 0 ≤ t ∧ t < 18446744073709551616) (hd : 0 ≤ d ∧ d < 18446744073709551616) : ref19_bytes.f n (c, m, t, d, ()) = some (cB c m t d, ()) := by
  have h28 := exN_le c
  have hel := exB_len c
  have w4 : wr .u64 c.1.2.2.1 = c.1.2.2.1 := wru64 hk.hd.sum.1 (by have := hk.hd.sum.2; omega)
  have w5 : wr .u64 (c.1.2.2.2.2.2.1.size : Int) = (c.1.2.2.2.2.2.1.size : Int) := wru64 (by omega) (by omega)
  have w6 : wr .u64 c.2.1 = c.2.1 := wru64 hk.dk.1 (by have := hk.dk.2; omega)
  have h32 : (exB c).length ≤ 32 := by rw [hel]; split <;> omega
  have w7 : wr .u64 ((exB c).length : Int) = ((exB c).length : Int) := wru64 (by omega) (by omega)
  rw [ref19_bytes.eq, rextra_is hn hn' c hk, Option.bind_some]
  have hj : (if (decide (((exB c).length : Int) > 0)) = true then (some (m, t, d, bxOf c, exB c, (45 : Int), ())) else (some (m, t, d, bxOf c, exB c, (20 : Int), ()))) = some (m, t, d, bxOf c, exB c, (if exN c = 0 then 20 else 45), ()) := by
    rw [hel]
    by_cases h0 : exN c = 0
    · simp [h0]
    · rw [if_neg h0, if_neg h0, if_pos (by simp; omega)]
  refine (bindE hj).trans ?_
  refine (bindE (least_is n c.1.2.2.2.1 4294967295)).trans ?_
  refine (bindE (least_is n c.1.2.2.2.2.1 4294967295)).trans ?_
  rw [w6]
  refine (bindE (least_is n c.2.1 65535)).trans ?_
  refine (bindE (least_is n c.2.2.1 4294967295)).trans ?_
  rw [if_pos (lim_of (by show ((c.1.2.2.2.2.2.1.size : Nat) : Int) ≤ _; omega)), w4, w5, w7]
  have r1 := mn_range (M := 4294967295) (by decide) hk.hd.pk.1
  have r2 := mn_range (M := 4294967295) (by decide) hk.hd.sz.1
  have r3 := mn_range (M := 65535) (by decide) hk.dk.1
  have r4 := mn_range (M := 4294967295) (by decide) hk.os.1
  have hsu := hk.hd.sum
  have hv : (0 : Int) ≤ (if exN c = 0 then 20 else 45) ∧ (if exN c = 0 then (20 : Int) else 45) < 18446744073709551616 := by split <;> decide
  have hnum := numbers_is (n := n) (by omega) (ps := cN c m t d) (cdL_range (by
    intro x hx
    simp only [List.mem_cons, List.not_mem_nil, or_false] at hx
    rcases hx with rfl | rfl | rfl | rfl | rfl | rfl | rfl | rfl | rfl | rfl | rfl
    · exact hv
    · exact hm
    · exact ht
    · exact hd
    · omega
    · omega
    · omega
    · omega
    · omega
    · omega
    · omega)) (by show 17 ≤ 1000; omega) (by show 17 < n; omega)
  refine (bindE hnum).trans ?_
  have hl := cB_len c m t d
  have hjn := join_is (n := n) (xs := [les (cN c m t d), sbytes c.1.2.2.2.2.2.1, exB c]) (by
    have e : ([les (cN c m t d), sbytes c.1.2.2.2.2.2.1, exB c] : List (List Int)).flatten = cB c m t d := by unfold cB; simp
    rw [e, hl]; omega) (by show 3 < n; omega) (by omega)
  refine (bindE hjn).trans ?_
  unfold cB
  simp
theorem rcwrite_is {n : Nat} (hn : 1000 ≤ n) (hn' : n ≤ 1000000) (c : Rec) (hk : RcOk c) : ref19_Write.f n (c, ()) = some (if chkV n c.1 = 0 then (wC c, 0, ()) else ([], chkV n c.1, ())) := by
  rw [ref19_Write.eq, rcheck_is hn, Option.bind_some]
  by_cases hc : chkV n c.1 = 0
  · obtain ⟨h1, h2, h3, h4, h5⟩ := chk_zero hc
    obtain ⟨p1, p2, p3, p4, _⟩ := h2.nums
    have w1 : wr .u64 c.1.1 = c.1.1 := wru64 (by omega) (by omega)
    have w2 : wr .u64 (timeN c.1.2.1) = timeN c.1.2.1 := wru64 (by omega) (by omega)
    have w3 : wr .u64 (dateN c.1.2.1) = dateN c.1.2.1 := wru64 (by omega) (by omega)
    rw [if_neg (by simp [hc]), rpack_ok n h2, Option.bind_some, if_pos hc]
    dsimp only
    rw [w1, w2, w3, rcbytes_is hn hn' c hk (by omega) (by omega) (by omega) (by omega), Option.bind_some]
    rfl
  · rw [if_pos (by simp [hc]), if_neg hc]
theorem rcsize_is {n : Nat} (hn : 1000 ≤ n) (hn' : n ≤ 1000000) (c : Rec) (hk : RcOk c) (hs : c.1.2.2.2.2.2.1.size ≤ 65535) : ref19_Size.f n (c, ()) = some (46 + (c.1.2.2.2.2.2.1.size : Int) + ((exB c).length : Int), ()) := by
  have hel := exB_len c
  have h28 := exN_le c
  have h32 : (exB c).length ≤ 32 := by rw [hel]; split <;> omega
  rw [ref19_Size.eq, rextra_is hn hn' c hk, Option.bind_some, wr64 (x := 46 + (c.1.2.2.2.2.2.1.size : Int)) (by omega) (by omega), wr64 (x := 46 + (c.1.2.2.2.2.2.1.size : Int) + ((exB c).length : Int)) (by omega) (by omega)]
theorem centralWrites (c : Rec) (hk : RcOk c) : law19_CentralWrites.f 1000 (c, ()) = some (true, ()) := by
  rw [law19_CentralWrites.eq, alive19, Option.bind_some, if_neg (show ¬ ((!true) = true) by decide)]
  by_cases h1 : c.1.2.2.2.2.2.1.size > 300
  · rw [if_pos (decide_eq_true (by omega))]
  have hel := exB_len c
  have h28 := exN_le c
  have h32 : (exB c).length ≤ 32 := by rw [hel]; split <;> omega
  have hlen := cB_len c c.1.1 (timeN c.1.2.1) (dateN c.1.2.1)
  rw [if_neg (by simp; omega), cwrite_is (by decide) (by decide) c hk, Option.bind_some, law19_as.eq, Option.bind_some, rcwrite_is (by decide) (by decide) c hk, Option.bind_some]
  by_cases hc : chkV 1000 c.1 = 0
  · have hs := same_is (n := 1000) (a := wC c) (b := wC c) (by unfold wC; omega) (by decide)
    rw [if_pos hc, if_pos (by simp), hs, Option.bind_some, if_pos (by simp), csize_is (by decide) (by decide) c hk (by omega), Option.bind_some, Option.bind_some, rcsize_is (by decide) (by decide) c hk (by omega), Option.bind_some, if_pos (by simp), if_neg (show ¬ (((0 : Int) != 0) = true) by decide), Option.bind_some]
    have e : ((wC c).length : Int) = 46 + (c.1.2.2.2.2.2.1.size : Int) + ((exB c).length : Int) := by unfold wC; omega
    simp [e]
  · have hs := same_is (n := 1000) (a := []) (b := []) (by simp) (by decide)
    rw [if_neg hc, if_pos (by simp), hs, Option.bind_some, if_pos (by simp), csize_is (by decide) (by decide) c hk (by omega), Option.bind_some, Option.bind_some, rcsize_is (by decide) (by decide) c hk (by omega), Option.bind_some, if_pos (by simp), if_pos (by simp [hc])]
end Go.Proofs.YtcnegcjjeakmmaaDoor.Vm

namespace Go.Proofs.YtcnegcjjeakmmaaDoor.Vm
open Go Go.RowKit
set_option linter.unusedVariables false
set_option linter.unusedSimpArgs false
set_option maxRecDepth 10000
theorem les_inj : ∀ {L M : List (Nat × Int)}, L.map (·.1) = M.map (·.1) → (∀ q ∈ L, 0 ≤ q.2 ∧ q.2 < 256 ^ q.1) → (∀ q ∈ M, 0 ≤ q.2 ∧ q.2 < 256 ^ q.1) → les L = les M → L = M
  | [], [], _, _, _, _ => rfl
  | [], q :: M, h, _, _, _ => by simp at h
  | p :: L, [], h, _, _, _ => by simp at h
  | p :: L, q :: M, h, h1, h2, h3 => by
    simp only [List.map_cons, List.cons.injEq] at h
    have h4 : le p.1 p.2 ++ les L = le q.1 q.2 ++ les M := h3
    obtain ⟨e1, e2⟩ := List.append_inj h4 (by rw [le_len, le_len, h.1])
    have r1 := h1 p (List.mem_cons_self ..)
    have r2 := h2 q (List.mem_cons_self ..)
    rw [h.1] at e1 r1
    have := le_inj q.1 r1.1 r1.2 r2.1 r2.2 e1
    rw [les_inj h.2 (fun x hx => h1 x (List.mem_cons_of_mem _ hx)) (fun x hx => h2 x (List.mem_cons_of_mem _ hx)) e2]
    congr 1
    exact Prod.ext h.1 this
/-- the name's bytes; the bytes of what doesn't fit -/
def cNm (b : List Int) : List Int := (b.drop 46).take (gt b 28 2).toNat
def cEx (b : List Int) : List Int := (b.drop (46 + (gt b 28 2).toNat)).take (gt b 30 2).toNat
def rcV (b : List Int) (p s o d : Int) : Rec := ((gt b 10 2, (if StOk (unS (gt b 14 2) (gt b 12 2)) then unS (gt b 14 2) (gt b 12 2) else zS), gt b 16 4, p, s, strOf (cNm b), ()), d, o, ())
/-- the record's header is this one -/
structure Hd (b : List Int) (c : Rec) : Prop where
  h0 : gt b 0 4 = 33639248
  h4 : gt b 4 2 = 45
  h6 : gt b 6 2 = if exN c = 0 then 20 else 45
  h8 : gt b 8 2 = 2048
  h20 : gt b 20 4 = mn 4294967295 c.1.2.2.2.1
  h24 : gt b 24 4 = mn 4294967295 c.1.2.2.2.2.1
  h30 : gt b 30 2 = ((exB c).length : Int)
  h32 : gt b 32 2 = 0
  h34 : gt b 34 2 = mn 65535 c.2.1
  h36 : gt b 36 2 = 0
  h38 : gt b 38 4 = 0
  h42 : gt b 42 4 = mn 4294967295 c.2.2.1
section
variable {b : List Int} (hb : By b) (hlen : 46 + gt b 28 2 + gt b 30 2 ≤ b.length)
include hb hlen
theorem cNm_len : (cNm b).length = (gt b 28 2).toNat := by
  have r1 := gt2 hb 28
  have r2 := gt2 hb 30
  unfold cNm
  rw [List.length_take, List.length_drop]; omega
theorem cEx_len : (cEx b).length = (gt b 30 2).toNat := by
  have r1 := gt2 hb 28
  have r2 := gt2 hb 30
  unfold cEx
  rw [List.length_take, List.length_drop]; omega
theorem take_all : b.take (46 + (gt b 28 2).toNat + (gt b 30 2).toNat) = les [(4, gt b 0 4), (2, gt b 4 2), (2, gt b 6 2), (2, gt b 8 2), (2, gt b 10 2), (2, gt b 12 2), (2, gt b 14 2), (4, gt b 16 4), (4, gt b 20 4), (4, gt b 24 4), (2, gt b 28 2), (2, gt b 30 2), (2, gt b 32 2), (2, gt b 34 2), (2, gt b 36 2), (4, gt b 38 4), (4, gt b 42 4)] ++ (cNm b ++ cEx b) := by
  have r1 := gt2 hb 28
  have r2 := gt2 hb 30
  have h := flds_is hb [4, 2, 2, 2, 2, 2, 2, 4, 4, 4, 2, 2, 2, 2, 2, 4, 4] 0 (by simp; omega)
  have h' : les [(4, gt b 0 4), (2, gt b 4 2), (2, gt b 6 2), (2, gt b 8 2), (2, gt b 10 2), (2, gt b 12 2), (2, gt b 14 2), (4, gt b 16 4), (4, gt b 20 4), (4, gt b 24 4), (2, gt b 28 2), (2, gt b 30 2), (2, gt b 32 2), (2, gt b 34 2), (2, gt b 36 2), (4, gt b 38 4), (4, gt b 42 4)] = b.take 46 := h
  rw [h']
  unfold cNm cEx
  rw [List.take_add, List.take_add, List.append_assoc]
theorem form_iff (c : Rec) (hk : RcOk c) (hsu : c.1.2.2.1 = gt b 16 4) (hnm : c.1.2.2.2.2.2.1 = strOf (cNm b)) : cB c (gt b 10 2) (gt b 12 2) (gt b 14 2) = b.take (46 + (gt b 28 2).toNat + (gt b 30 2).toNat) ↔ Hd b c ∧ exB c = cEx b := by
  have r1 := gt2 hb 28
  have r2 := gt2 hb 30
  have hn := cNm_len hb hlen
  have hN : By (cNm b) := (hb.drop _).take _
  have q1 := mn_range (M := 4294967295) (by decide) hk.hd.pk.1
  have q2 := mn_range (M := 4294967295) (by decide) hk.hd.sz.1
  have q3 := mn_range (M := 65535) (by decide) hk.dk.1
  have q4 := mn_range (M := 4294967295) (by decide) hk.os.1
  have hel := exB_len c
  have h28 := exN_le c
  have h32 : (exB c).length ≤ 32 := by rw [hel]; split <;> omega
  have hsz : (c.1.2.2.2.2.2.1.size : Int) = gt b 28 2 := by rw [hnm, str_size, hn]; omega
  rw [take_all hb hlen]
  unfold cB
  rw [hnm, bytes_str hN]
  have key : les (cN c (gt b 10 2) (gt b 12 2) (gt b 14 2)) = les [(4, gt b 0 4), (2, gt b 4 2), (2, gt b 6 2), (2, gt b 8 2), (2, gt b 10 2), (2, gt b 12 2), (2, gt b 14 2), (4, gt b 16 4), (4, gt b 20 4), (4, gt b 24 4), (2, gt b 28 2), (2, gt b 30 2), (2, gt b 32 2), (2, gt b 34 2), (2, gt b 36 2), (4, gt b 38 4), (4, gt b 42 4)] ↔ Hd b c := by
    have g2 := fun i => gt2 hb i
    have g4 := fun i => gt4 hb i
    have hv : (0 : Int) ≤ (if exN c = 0 then 20 else 45) ∧ (if exN c = 0 then (20 : Int) else 45) < 256 ^ 2 := by split <;> decide
    have p2 : (256 : Int) ^ 2 = 65536 := rfl
    have p4 : (256 : Int) ^ 4 = 4294967296 := rfl
    refine ⟨fun h => ?_, fun h => ?_⟩
    · have hi := les_inj (L := cN c (gt b 10 2) (gt b 12 2) (gt b 14 2)) (by rfl) (by
        intro x hx
        unfold cN cdL at hx
        simp only [List.mem_cons, List.not_mem_nil, or_false] at hx
        rcases hx with rfl | rfl | rfl | rfl | rfl | rfl | rfl | rfl | rfl | rfl | rfl | rfl | rfl | rfl | rfl | rfl | rfl
        · exact ⟨by decide, by decide⟩
        · exact ⟨by decide, by decide⟩
        · exact hv
        · exact ⟨by decide, by decide⟩
        · exact g2 10
        · exact g2 12
        · exact g2 14
        · rw [hsu]; exact g4 16
        · exact ⟨q1.1, by rw [p4]; omega⟩
        · exact ⟨q2.1, by rw [p4]; omega⟩
        · rw [hsz]; exact g2 28
        · exact ⟨by omega, by rw [p2]; omega⟩
        · exact ⟨by decide, by decide⟩
        · exact ⟨q3.1, by rw [p2]; omega⟩
        · exact ⟨by decide, by decide⟩
        · exact ⟨by decide, by decide⟩
        · exact ⟨q4.1, by rw [p4]; omega⟩) (by
        intro x hx
        simp only [List.mem_cons, List.not_mem_nil, or_false] at hx
        rcases hx with rfl | rfl | rfl | rfl | rfl | rfl | rfl | rfl | rfl | rfl | rfl | rfl | rfl | rfl | rfl | rfl | rfl
        · exact g4 0
        · exact g2 4
        · exact g2 6
        · exact g2 8
        · exact g2 10
        · exact g2 12
        · exact g2 14
        · exact g4 16
        · exact g4 20
        · exact g4 24
        · exact g2 28
        · exact g2 30
        · exact g2 32
        · exact g2 34
        · exact g2 36
        · exact g4 38
        · exact g4 42) h
      unfold cN cdL at hi
      simp only [List.cons.injEq, Prod.mk.injEq, true_and, and_true] at hi
      obtain ⟨a0, a4, a6, a8, a16, a20, a24, a28, a30, a32, a34, a36, a38, a42⟩ := hi
      exact ⟨a0.symm, a4.symm, a6.symm, a8.symm, a20.symm, a24.symm, a30.symm, a32.symm, a34.symm, a36.symm, a38.symm, a42.symm⟩
    · unfold cN cdL
      rw [h.h0, h.h4, h.h6, h.h8, h.h20, h.h24, h.h30, h.h32, h.h34, h.h36, h.h38, h.h42, hsu, hsz]
  have hl : (les (cN c (gt b 10 2) (gt b 12 2) (gt b 14 2))).length = (les [(4, gt b 0 4), (2, gt b 4 2), (2, gt b 6 2), (2, gt b 8 2), (2, gt b 10 2), (2, gt b 12 2), (2, gt b 14 2), (4, gt b 16 4), (4, gt b 20 4), (4, gt b 24 4), (2, gt b 28 2), (2, gt b 30 2), (2, gt b 32 2), (2, gt b 34 2), (2, gt b 36 2), (4, gt b 38 4), (4, gt b 42 4)]).length := rfl
  refine ⟨fun h => ?_, fun h => ?_⟩
  · obtain ⟨e1, e2⟩ := List.append_inj h hl
    exact ⟨key.1 e1, List.append_cancel_left e2⟩
  · rw [key.2 h.1, h.2]
end
/-- the numbers that don't fit, where they stand in their bytes -/
def a1 (b : List Int) : Nat := if gt b 24 4 = 4294967295 then 8 else 0
def a2 (b : List Int) : Nat := a1 b + if gt b 20 4 = 4294967295 then 8 else 0
def a3 (b : List Int) : Nat := a2 b + if gt b 42 4 = 4294967295 then 8 else 0
def a4 (b : List Int) : Nat := a3 b + if gt b 34 2 = 65535 then 4 else 0
def sV (b : List Int) : Int := if gt b 24 4 = 4294967295 then gt (cEx b) 4 8 else gt b 24 4
def pV (b : List Int) : Int := if gt b 20 4 = 4294967295 then gt (cEx b) (4 + a1 b) 8 else gt b 20 4
def oV (b : List Int) : Int := if gt b 42 4 = 4294967295 then gt (cEx b) (4 + a2 b) 8 else gt b 42 4
def dV (b : List Int) : Int := if gt b 34 2 = 65535 then gt (cEx b) (4 + a3 b) 4 else gt b 34 2
def rE (b : List Int) : Rec := rcV b (pV b) (sV b) (oV b) (dV b)
theorem cEx_by {b : List Int} (hb : By b) : By (cEx b) := (hb.drop _).take _
theorem rE_ok {b : List Int} (hb : By b) : RcOk (rE b) := by
  have he := cEx_by hb
  refine ⟨⟨gt4 hb 16, ?_, ?_⟩, ?_, ?_⟩
  · show 0 ≤ pV b ∧ pV b < _
    unfold pV
    split
    · exact gt8 he _
    · have := gt4 hb 20; omega
  · show 0 ≤ sV b ∧ sV b < _
    unfold sV
    split
    · exact gt8 he _
    · have := gt4 hb 24; omega
  · show 0 ≤ dV b ∧ dV b < _
    unfold dV
    split
    · exact gt4 he _
    · have := gt2 hb 34; omega
  · show 0 ≤ oV b ∧ oV b < _
    unfold oV
    split
    · exact gt8 he _
    · have := gt4 hb 42; omega
/-- how many bytes do not fit, if the header is as it must be -/
theorem fit1_n (s : Nat) (M x : Int) : (les (fit1 s M x)).length = if M ≤ x then s else 0 := by
  unfold fit1
  split
  · show (le s x ++ []).length = s
    rw [List.append_nil, le_len]
  · rfl
theorem Hd.n {b : List Int} {c : Rec} (h : Hd b c) : exN c = a4 b := by
  have f1 := fit1_n 8 4294967295 c.1.2.2.2.2.1
  have f2 := fit1_n 8 4294967295 c.1.2.2.2.1
  have f3 := fit1_n 8 4294967295 c.2.2.1
  have f4 := fit1_n 4 65535 c.2.1
  have e1 := h.h24
  have e2 := h.h20
  have e3 := h.h42
  have e4 := h.h34
  unfold mn at e1 e2 e3 e4
  unfold exN exL a4 a3 a2 a1
  rw [les_append, les_append, les_append, List.length_append, List.length_append, List.length_append, f1, f2, f3, f4]
  have g1 : 4294967295 ≤ c.1.2.2.2.2.1 ↔ gt b 24 4 = 4294967295 := by rw [e1]; split <;> omega
  have g2 : 4294967295 ≤ c.1.2.2.2.1 ↔ gt b 20 4 = 4294967295 := by rw [e2]; split <;> omega
  have g3 : 4294967295 ≤ c.2.2.1 ↔ gt b 42 4 = 4294967295 := by rw [e3]; split <;> omega
  have g4 : 65535 ≤ c.2.1 ↔ gt b 34 2 = 65535 := by rw [e4]; split <;> omega
  simp only [g1, g2, g3, g4]
  omega
end Go.Proofs.YtcnegcjjeakmmaaDoor.Vm

namespace Go.Proofs.YtcnegcjjeakmmaaDoor.Vm
open Go Go.RowKit
set_option linter.unusedVariables false
set_option linter.unusedSimpArgs false
set_option linter.unusedSectionVars false
set_option maxRecDepth 10000
/-- a reader's next number -/
def rdS (e : List Int) (st : Nat × Bool) (k : Nat) : (Nat × Bool) × Int := if st.2 = true then (st, 0) else if st.1 + k ≤ e.length then ((st.1 + k, false), gt e st.1 k) else ((st.1, true), 0)
theorem rdS_le {e : List Int} {st : Nat × Bool} {k : Nat} (h : st.1 ≤ e.length) : (rdS e st k).1.1 ≤ e.length := by
  unfold rdS
  split
  · exact h
  · split
    · assumption
    · exact h
theorem rdS_is {n : Nat} (hn : 1000 ≤ n) {e : List Int} (he : By e) (hl : e.length ≤ 1000000) {st : Nat × Bool} (h : st.1 ≤ e.length) {k : Nat} (hk : k ≤ 8) : little_Reader_Num.f n ((e, (st.1 : Int), st.2, ()), (k : Int), ()) = some ((e, ((rdS e st k).1.1 : Int), (rdS e st k).1.2, ()), (rdS e st k).2, ()) := by
  obtain ⟨a, s⟩ := st
  unfold rdS
  simp only at h ⊢
  cases s with
  | true =>
    rw [little_Reader_Num.eq, held_le _ (by omega) (by omega), Option.bind_some]
    show (little_Reader_Bytes.f n ((e, (a : Int), true, ()), (k : Int), ())).bind _ = _
    rw [bytes_sh, Option.bind_some]
    show (little_Get.f n ([], ())).bind _ = _
    rw [get_is (by omega) By.nil (by simp), Option.bind_some]
    rfl
  | false =>
    rw [if_neg (by decide)]
    by_cases h2 : a + k ≤ e.length
    · rw [if_pos h2]
      exact num_ok hn he hl hk h2
    · rw [if_neg h2, little_Reader_Num.eq, held_le _ (by omega) (by omega), Option.bind_some]
      show (little_Reader_Bytes.f n ((e, (a : Int), false, ()), (k : Int), ())).bind _ = _
      rw [bytes_short hl h (by omega) (by omega), Option.bind_some]
      show (little_Get.f n ([], ())).bind _ = _
      rw [get_is (by omega) By.nil (by simp), Option.bind_some]
      rfl
/-- a number that is read only if it doesn't fit -/
def cr (e : List Int) (st : Nat × Bool) (k : Nat) (M x : Int) : (Nat × Bool) × Int := if M ≤ x then rdS e st k else (st, x)
theorem cr_le {e : List Int} {st : Nat × Bool} {k : Nat} {M x : Int} (h : st.1 ≤ e.length) : (cr e st k M x).1.1 ≤ e.length := by
  unfold cr
  split
  · exact rdS_le h
  · exact h
def q1 (e : List Int) (st : Nat × Bool) (c : Rec) : (Nat × Bool) × Int := cr e st 8 4294967295 c.1.2.2.2.2.1
def q2 (e : List Int) (st : Nat × Bool) (c : Rec) : (Nat × Bool) × Int := cr e (q1 e st c).1 8 4294967295 c.1.2.2.2.1
def q3 (e : List Int) (st : Nat × Bool) (c : Rec) : (Nat × Bool) × Int := cr e (q2 e st c).1 8 4294967295 c.2.2.1
def q4 (e : List Int) (st : Nat × Bool) (c : Rec) : (Nat × Bool) × Int := cr e (q3 e st c).1 4 65535 c.2.1
def upd (c : Rec) (p s o d : Int) : Rec := ((c.1.1, c.1.2.1, c.1.2.2.1, p, s, c.1.2.2.2.2.2.1, ()), d, o, ())
def toldV (e : List Int) (c : Rec) : Rec × Bool :=
  if e.length = 0 then (c, true)
  else if (rdS e (0, false) 2).2 ≠ 1 then (c, false)
  else if (rdS e (rdS e (0, false) 2).1 2).2 ≠ wr .u64 ((e.length : Int) - 4) then (c, false)
  else (upd c (q2 e (rdS e (rdS e (0, false) 2).1 2).1 c).2 (q1 e (rdS e (rdS e (0, false) 2).1 2).1 c).2 (q3 e (rdS e (rdS e (0, false) 2).1 2).1 c).2 (q4 e (rdS e (rdS e (0, false) 2).1 2).1 c).2,
    !(q4 e (rdS e (rdS e (0, false) 2).1 2).1 c).1.2 && ((e.length : Int) - ((q4 e (rdS e (rdS e (0, false) 2).1 2).1 c).1.1 : Int) == 0))
theorem rdS_range {e : List Int} (he : By e) (st : Nat × Bool) (k : Nat) : 0 ≤ (rdS e st k).2 ∧ (rdS e st k).2 < 256 ^ k := by
  unfold rdS
  have hp : (0 : Int) < 256 ^ k := Int.pow_pos (by decide)
  split
  · exact ⟨Int.le_refl _, hp⟩
  · split
    · exact gt_range he _ _
    · exact ⟨Int.le_refl _, hp⟩
theorem told_is {n : Nat} (hn : 1000 ≤ n) (hn' : n ≤ 1000000) {e : List Int} (he : By e) (hl : e.length ≤ 1000000) (c : Rec) (hk : RcOk c) : central_told.f n (bxOf c, e, ()) = some (bxOf (toldV e c).1, (toldV e c).2, ()) := by
  unfold toldV
  rw [central_told.eq]
  by_cases h0 : e.length = 0
  · rw [if_pos (by simp [h0]), if_pos h0]
  rw [if_neg (by rw [beq_iff_eq]; omega), if_neg h0, little_Read.eq, Option.bind_some]
  have w1 : wr .i64 ((e.length : Int) - 4) = (e.length : Int) - 4 := wr64 (by omega) (by omega)
  have wd : wr .u64 c.2.1 = c.2.1 := wru64 hk.dk.1 (by have := hk.dk.2; omega)
  have n1 := rdS_is hn he hl (st := (0, false)) (Nat.zero_le _) (k := 2) (by omega)
  have l1 : (rdS e (0, false) 2).1.1 ≤ e.length := rdS_le (Nat.zero_le _)
  obtain ⟨r1, hr1⟩ : ∃ r, r = rdS e (0, false) 2 := ⟨_, rfl⟩
  rw [← hr1] at n1 l1 ⊢
  have n2 := rdS_is hn he hl l1 (k := 2) (by omega)
  have l2 : (rdS e r1.1 2).1.1 ≤ e.length := rdS_le l1
  obtain ⟨r2, hr2⟩ : ∃ r, r = rdS e r1.1 2 := ⟨_, rfl⟩
  rw [← hr2] at n2 l2 ⊢
  by_cases h1 : r1.2 = 1
  · by_cases h2 : r2.2 = wr .u64 ((e.length : Int) - 4)
    · have hj : (little_Reader_Num.f n ((e, (0 : Int), false, ()), (2 : Int), ())).bind (fun y67 => (if (y67.2.1 != (1 : Int)) = true then (some (bxOf c, (y67.1.1, y67.1.2.1, y67.1.2.2.1, ()), true, ())) else (little_Reader_Num.f n ((y67.1.1, y67.1.2.1, y67.1.2.2.1, ()), (2 : Int), ())).bind (fun y68 => (some (bxOf c, (y68.1.1, y68.1.2.1, y68.1.2.2.1, ()), (y68.2.1 != (wr IntKind.u64 (wr IntKind.i64 (((List.length e : Nat) : Int) - (4 : Int))))), ()))))) = some (bxOf c, (e, (r2.1.1 : Int), r2.1.2, ()), false, ()) := by
        refine (bindE n1).trans ?_
        rw [if_neg (by simp [h1])]
        refine (bindE n2).trans ?_
        rw [w1, h2]
        simp
      refine (bindE hj).trans ?_
      rw [if_neg Bool.false_ne_true, if_neg (by simp [h1]), if_neg (by simp [h2])]
      have num8 : ∀ st : Nat × Bool, st.1 ≤ e.length → little_Reader_Num.f n ((e, (st.1 : Int), st.2, ()), 8, ()) = some ((e, ((rdS e st 8).1.1 : Int), (rdS e st 8).1.2, ()), (rdS e st 8).2, ()) := fun st h => rdS_is hn he hl h (k := 8) (by omega)
      have num4 : ∀ st : Nat × Bool, st.1 ≤ e.length → little_Reader_Num.f n ((e, (st.1 : Int), st.2, ()), 4, ()) = some ((e, ((rdS e st 4).1.1 : Int), (rdS e st 4).1.2, ()), (rdS e st 4).2, ()) := fun st h => rdS_is hn he hl h (k := 4) (by omega)
      have wl : ∀ a : Nat, a ≤ e.length → wr .i64 ((e.length : Int) - (a : Int)) = (e.length : Int) - a := fun a ha => wr64 (by omega) (by omega)
      have w4 : ∀ st : Nat × Bool, wr .u32 (rdS e st 4).2 = (rdS e st 4).2 := fun st => by
        have := rdS_range he st 4
        rw [wru32]
        exact Int.emod_eq_of_lt this.1 this.2
      have wd2 : wr .u32 c.2.1 = c.2.1 := by rw [wru32, Int.emod_eq_of_lt hk.dk.1 hk.dk.2]
      have le8 : ∀ st : Nat × Bool, st.1 ≤ e.length → (rdS e st 8).1.1 ≤ e.length := fun st h => rdS_le h
      have le4 : ∀ st : Nat × Bool, st.1 ≤ e.length → (rdS e st 4).1.1 ≤ e.length := fun st h => rdS_le h
      have sh : ∀ (a : Int) (s : Bool), little_Reader_Short.f n ((e, a, s, ()), ()) = some ((e, a, s, ()), s, ()) := fun a s => little_Reader_Short.eq n e a s
      have lf : ∀ (a : Nat) (s : Bool), a ≤ e.length → little_Reader_Left.f n ((e, (a : Int), s, ()), ()) = some ((e, (a : Int), s, ()), (e.length : Int) - a, ()) := fun a s ha => by rw [little_Reader_Left.eq, wl a ha]
      have le0 := l2
      obtain ⟨st, hst⟩ : ∃ st, st = r2.1 := ⟨_, rfl⟩
      have hs1 : r2.1.1 = st.1 := by rw [hst]
      have hs2 : r2.1.2 = st.2 := by rw [hst]
      rw [← hst] at l2 ⊢
      simp only [hs1, hs2]
      clear hj n1 n2 hr1 hr2
      refine (bindE (central_fields.eq n _)).trans ?_
      refine (if_pos (show (0 : Int) ≤ 0 by decide)).trans ?_
      refine (if_pos (show (0 : Int) < ((4 : Nat) : Int) by decide)).trans ?_
      by_cases hs : 4294967295 ≤ c.1.2.2.2.2.1
      · refine (if_pos (show decide (c.1.2.2.2.2.1 ≥ 4294967295) = true by simpa using hs)).trans ?_
        refine (bindE (num8 _ l2)).trans ?_
        refine (bindE (central_fields.eq n _)).trans ?_
        refine (if_pos (show (0 : Int) ≤ 1 by decide)).trans ?_
        refine (if_pos (show (1 : Int) < ((4 : Nat) : Int) by decide)).trans ?_
        by_cases hp : 4294967295 ≤ c.1.2.2.2.1
        · refine (if_pos (show decide (c.1.2.2.2.1 ≥ 4294967295) = true by simpa using hp)).trans ?_
          refine (bindE (num8 _ (le8 _ l2))).trans ?_
          refine (bindE (central_fields.eq n _)).trans ?_
          refine (if_pos (show (0 : Int) ≤ 2 by decide)).trans ?_
          refine (if_pos (show (2 : Int) < ((4 : Nat) : Int) by decide)).trans ?_
          by_cases ho : 4294967295 ≤ c.2.2.1
          · refine (if_pos (show decide (c.2.2.1 ≥ 4294967295) = true by simpa using ho)).trans ?_
            refine (bindE (num8 _ (le8 _ (le8 _ l2)))).trans ?_
            refine (bindE (central_fields.eq n _)).trans ?_
            refine (if_pos (show (0 : Int) ≤ 3 by decide)).trans ?_
            refine (if_pos (show (3 : Int) < ((4 : Nat) : Int) by decide)).trans ?_
            by_cases hd : 65535 ≤ c.2.1
            · refine (if_pos (show decide ((wr .u64 c.2.1) ≥ 65535) = true by rw [wd]; simpa using hd)).trans ?_
              refine (bindE (num4 _ (le8 _ (le8 _ (le8 _ l2))))).trans ?_
              refine (bindE (a := (bxOf (upd c (q2 e st c).2 (q1 e st c).2 (q3 e st c).2 (q4 e st c).2), (!(rdS e (rdS e (rdS e (rdS e st 8).1 8).1 8).1 4).1.2 && ((e.length : Int) - ((rdS e (rdS e (rdS e (rdS e st 8).1 8).1 8).1 4).1.1 : Int) == 0)), ())) ?_).trans ?_
              · refine (bindE (sh _ _)).trans ?_
                cases hv : (rdS e (rdS e (rdS e (rdS e st 8).1 8).1 8).1 4).1.2
                · refine (if_pos rfl).trans ?_; refine (bindE (lf _ _ (le4 _ (le8 _ (le8 _ (le8 _ l2)))))).trans ?_; simp [wd, wd2, w4, upd, q1, q2, q3, q4, cr, hv, hs, hp, ho, hd]
                · refine (if_neg Bool.false_ne_true).trans ?_; simp [wd, wd2, w4, upd, q1, q2, q3, q4, cr, hv, hs, hp, ho, hd]
              · simp [q1, q2, q3, q4, cr, upd, hs, hp, ho, hd]
            · refine (if_neg (show ¬ (decide ((wr .u64 c.2.1) ≥ 65535) = true) by rw [wd]; simpa using hd)).trans ?_
              refine (bindE (a := (bxOf (upd c (q2 e st c).2 (q1 e st c).2 (q3 e st c).2 (q4 e st c).2), (!(rdS e (rdS e (rdS e st 8).1 8).1 8).1.2 && ((e.length : Int) - ((rdS e (rdS e (rdS e st 8).1 8).1 8).1.1 : Int) == 0)), ())) ?_).trans ?_
              · refine (bindE (sh _ _)).trans ?_
                cases hv : (rdS e (rdS e (rdS e st 8).1 8).1 8).1.2
                · refine (if_pos rfl).trans ?_; refine (bindE (lf _ _ (le8 _ (le8 _ (le8 _ l2))))).trans ?_; simp [wd, wd2, w4, upd, q1, q2, q3, q4, cr, hv, hs, hp, ho, hd]
                · refine (if_neg Bool.false_ne_true).trans ?_; simp [wd, wd2, w4, upd, q1, q2, q3, q4, cr, hv, hs, hp, ho, hd]
              · simp [q1, q2, q3, q4, cr, upd, hs, hp, ho, hd]
          · refine (if_neg (show ¬ (decide (c.2.2.1 ≥ 4294967295) = true) by simpa using ho)).trans ?_
            refine (bindE (central_fields.eq n _)).trans ?_
            refine (if_pos (show (0 : Int) ≤ 3 by decide)).trans ?_
            refine (if_pos (show (3 : Int) < ((4 : Nat) : Int) by decide)).trans ?_
            by_cases hd : 65535 ≤ c.2.1
            · refine (if_pos (show decide ((wr .u64 c.2.1) ≥ 65535) = true by rw [wd]; simpa using hd)).trans ?_
              refine (bindE (num4 _ (le8 _ (le8 _ l2)))).trans ?_
              refine (bindE (a := (bxOf (upd c (q2 e st c).2 (q1 e st c).2 (q3 e st c).2 (q4 e st c).2), (!(rdS e (rdS e (rdS e st 8).1 8).1 4).1.2 && ((e.length : Int) - ((rdS e (rdS e (rdS e st 8).1 8).1 4).1.1 : Int) == 0)), ())) ?_).trans ?_
              · refine (bindE (sh _ _)).trans ?_
                cases hv : (rdS e (rdS e (rdS e st 8).1 8).1 4).1.2
                · refine (if_pos rfl).trans ?_; refine (bindE (lf _ _ (le4 _ (le8 _ (le8 _ l2))))).trans ?_; simp [wd, wd2, w4, upd, q1, q2, q3, q4, cr, hv, hs, hp, ho, hd]
                · refine (if_neg Bool.false_ne_true).trans ?_; simp [wd, wd2, w4, upd, q1, q2, q3, q4, cr, hv, hs, hp, ho, hd]
              · simp [q1, q2, q3, q4, cr, upd, hs, hp, ho, hd]
            · refine (if_neg (show ¬ (decide ((wr .u64 c.2.1) ≥ 65535) = true) by rw [wd]; simpa using hd)).trans ?_
              refine (bindE (a := (bxOf (upd c (q2 e st c).2 (q1 e st c).2 (q3 e st c).2 (q4 e st c).2), (!(rdS e (rdS e st 8).1 8).1.2 && ((e.length : Int) - ((rdS e (rdS e st 8).1 8).1.1 : Int) == 0)), ())) ?_).trans ?_
              · refine (bindE (sh _ _)).trans ?_
                cases hv : (rdS e (rdS e st 8).1 8).1.2
                · refine (if_pos rfl).trans ?_; refine (bindE (lf _ _ (le8 _ (le8 _ l2)))).trans ?_; simp [wd, wd2, w4, upd, q1, q2, q3, q4, cr, hv, hs, hp, ho, hd]
                · refine (if_neg Bool.false_ne_true).trans ?_; simp [wd, wd2, w4, upd, q1, q2, q3, q4, cr, hv, hs, hp, ho, hd]
              · simp [q1, q2, q3, q4, cr, upd, hs, hp, ho, hd]
        · refine (if_neg (show ¬ (decide (c.1.2.2.2.1 ≥ 4294967295) = true) by simpa using hp)).trans ?_
          refine (bindE (central_fields.eq n _)).trans ?_
          refine (if_pos (show (0 : Int) ≤ 2 by decide)).trans ?_
          refine (if_pos (show (2 : Int) < ((4 : Nat) : Int) by decide)).trans ?_
          by_cases ho : 4294967295 ≤ c.2.2.1
          · refine (if_pos (show decide (c.2.2.1 ≥ 4294967295) = true by simpa using ho)).trans ?_
            refine (bindE (num8 _ (le8 _ l2))).trans ?_
            refine (bindE (central_fields.eq n _)).trans ?_
            refine (if_pos (show (0 : Int) ≤ 3 by decide)).trans ?_
            refine (if_pos (show (3 : Int) < ((4 : Nat) : Int) by decide)).trans ?_
            by_cases hd : 65535 ≤ c.2.1
            · refine (if_pos (show decide ((wr .u64 c.2.1) ≥ 65535) = true by rw [wd]; simpa using hd)).trans ?_
              refine (bindE (num4 _ (le8 _ (le8 _ l2)))).trans ?_
              refine (bindE (a := (bxOf (upd c (q2 e st c).2 (q1 e st c).2 (q3 e st c).2 (q4 e st c).2), (!(rdS e (rdS e (rdS e st 8).1 8).1 4).1.2 && ((e.length : Int) - ((rdS e (rdS e (rdS e st 8).1 8).1 4).1.1 : Int) == 0)), ())) ?_).trans ?_
              · refine (bindE (sh _ _)).trans ?_
                cases hv : (rdS e (rdS e (rdS e st 8).1 8).1 4).1.2
                · refine (if_pos rfl).trans ?_; refine (bindE (lf _ _ (le4 _ (le8 _ (le8 _ l2))))).trans ?_; simp [wd, wd2, w4, upd, q1, q2, q3, q4, cr, hv, hs, hp, ho, hd]
                · refine (if_neg Bool.false_ne_true).trans ?_; simp [wd, wd2, w4, upd, q1, q2, q3, q4, cr, hv, hs, hp, ho, hd]
              · simp [q1, q2, q3, q4, cr, upd, hs, hp, ho, hd]
            · refine (if_neg (show ¬ (decide ((wr .u64 c.2.1) ≥ 65535) = true) by rw [wd]; simpa using hd)).trans ?_
              refine (bindE (a := (bxOf (upd c (q2 e st c).2 (q1 e st c).2 (q3 e st c).2 (q4 e st c).2), (!(rdS e (rdS e st 8).1 8).1.2 && ((e.length : Int) - ((rdS e (rdS e st 8).1 8).1.1 : Int) == 0)), ())) ?_).trans ?_
              · refine (bindE (sh _ _)).trans ?_
                cases hv : (rdS e (rdS e st 8).1 8).1.2
                · refine (if_pos rfl).trans ?_; refine (bindE (lf _ _ (le8 _ (le8 _ l2)))).trans ?_; simp [wd, wd2, w4, upd, q1, q2, q3, q4, cr, hv, hs, hp, ho, hd]
                · refine (if_neg Bool.false_ne_true).trans ?_; simp [wd, wd2, w4, upd, q1, q2, q3, q4, cr, hv, hs, hp, ho, hd]
              · simp [q1, q2, q3, q4, cr, upd, hs, hp, ho, hd]
          · refine (if_neg (show ¬ (decide (c.2.2.1 ≥ 4294967295) = true) by simpa using ho)).trans ?_
            refine (bindE (central_fields.eq n _)).trans ?_
            refine (if_pos (show (0 : Int) ≤ 3 by decide)).trans ?_
            refine (if_pos (show (3 : Int) < ((4 : Nat) : Int) by decide)).trans ?_
            by_cases hd : 65535 ≤ c.2.1
            · refine (if_pos (show decide ((wr .u64 c.2.1) ≥ 65535) = true by rw [wd]; simpa using hd)).trans ?_
              refine (bindE (num4 _ (le8 _ l2))).trans ?_
              refine (bindE (a := (bxOf (upd c (q2 e st c).2 (q1 e st c).2 (q3 e st c).2 (q4 e st c).2), (!(rdS e (rdS e st 8).1 4).1.2 && ((e.length : Int) - ((rdS e (rdS e st 8).1 4).1.1 : Int) == 0)), ())) ?_).trans ?_
              · refine (bindE (sh _ _)).trans ?_
                cases hv : (rdS e (rdS e st 8).1 4).1.2
                · refine (if_pos rfl).trans ?_; refine (bindE (lf _ _ (le4 _ (le8 _ l2)))).trans ?_; simp [wd, wd2, w4, upd, q1, q2, q3, q4, cr, hv, hs, hp, ho, hd]
                · refine (if_neg Bool.false_ne_true).trans ?_; simp [wd, wd2, w4, upd, q1, q2, q3, q4, cr, hv, hs, hp, ho, hd]
              · simp [q1, q2, q3, q4, cr, upd, hs, hp, ho, hd]
            · refine (if_neg (show ¬ (decide ((wr .u64 c.2.1) ≥ 65535) = true) by rw [wd]; simpa using hd)).trans ?_
              refine (bindE (a := (bxOf (upd c (q2 e st c).2 (q1 e st c).2 (q3 e st c).2 (q4 e st c).2), (!(rdS e st 8).1.2 && ((e.length : Int) - ((rdS e st 8).1.1 : Int) == 0)), ())) ?_).trans ?_
              · refine (bindE (sh _ _)).trans ?_
                cases hv : (rdS e st 8).1.2
                · refine (if_pos rfl).trans ?_; refine (bindE (lf _ _ (le8 _ l2))).trans ?_; simp [wd, wd2, w4, upd, q1, q2, q3, q4, cr, hv, hs, hp, ho, hd]
                · refine (if_neg Bool.false_ne_true).trans ?_; simp [wd, wd2, w4, upd, q1, q2, q3, q4, cr, hv, hs, hp, ho, hd]
              · simp [q1, q2, q3, q4, cr, upd, hs, hp, ho, hd]
      · refine (if_neg (show ¬ (decide (c.1.2.2.2.2.1 ≥ 4294967295) = true) by simpa using hs)).trans ?_
        refine (bindE (central_fields.eq n _)).trans ?_
        refine (if_pos (show (0 : Int) ≤ 1 by decide)).trans ?_
        refine (if_pos (show (1 : Int) < ((4 : Nat) : Int) by decide)).trans ?_
        by_cases hp : 4294967295 ≤ c.1.2.2.2.1
        · refine (if_pos (show decide (c.1.2.2.2.1 ≥ 4294967295) = true by simpa using hp)).trans ?_
          refine (bindE (num8 _ l2)).trans ?_
          refine (bindE (central_fields.eq n _)).trans ?_
          refine (if_pos (show (0 : Int) ≤ 2 by decide)).trans ?_
          refine (if_pos (show (2 : Int) < ((4 : Nat) : Int) by decide)).trans ?_
          by_cases ho : 4294967295 ≤ c.2.2.1
          · refine (if_pos (show decide (c.2.2.1 ≥ 4294967295) = true by simpa using ho)).trans ?_
            refine (bindE (num8 _ (le8 _ l2))).trans ?_
            refine (bindE (central_fields.eq n _)).trans ?_
            refine (if_pos (show (0 : Int) ≤ 3 by decide)).trans ?_
            refine (if_pos (show (3 : Int) < ((4 : Nat) : Int) by decide)).trans ?_
            by_cases hd : 65535 ≤ c.2.1
            · refine (if_pos (show decide ((wr .u64 c.2.1) ≥ 65535) = true by rw [wd]; simpa using hd)).trans ?_
              refine (bindE (num4 _ (le8 _ (le8 _ l2)))).trans ?_
              refine (bindE (a := (bxOf (upd c (q2 e st c).2 (q1 e st c).2 (q3 e st c).2 (q4 e st c).2), (!(rdS e (rdS e (rdS e st 8).1 8).1 4).1.2 && ((e.length : Int) - ((rdS e (rdS e (rdS e st 8).1 8).1 4).1.1 : Int) == 0)), ())) ?_).trans ?_
              · refine (bindE (sh _ _)).trans ?_
                cases hv : (rdS e (rdS e (rdS e st 8).1 8).1 4).1.2
                · refine (if_pos rfl).trans ?_; refine (bindE (lf _ _ (le4 _ (le8 _ (le8 _ l2))))).trans ?_; simp [wd, wd2, w4, upd, q1, q2, q3, q4, cr, hv, hs, hp, ho, hd]
                · refine (if_neg Bool.false_ne_true).trans ?_; simp [wd, wd2, w4, upd, q1, q2, q3, q4, cr, hv, hs, hp, ho, hd]
              · simp [q1, q2, q3, q4, cr, upd, hs, hp, ho, hd]
            · refine (if_neg (show ¬ (decide ((wr .u64 c.2.1) ≥ 65535) = true) by rw [wd]; simpa using hd)).trans ?_
              refine (bindE (a := (bxOf (upd c (q2 e st c).2 (q1 e st c).2 (q3 e st c).2 (q4 e st c).2), (!(rdS e (rdS e st 8).1 8).1.2 && ((e.length : Int) - ((rdS e (rdS e st 8).1 8).1.1 : Int) == 0)), ())) ?_).trans ?_
              · refine (bindE (sh _ _)).trans ?_
                cases hv : (rdS e (rdS e st 8).1 8).1.2
                · refine (if_pos rfl).trans ?_; refine (bindE (lf _ _ (le8 _ (le8 _ l2)))).trans ?_; simp [wd, wd2, w4, upd, q1, q2, q3, q4, cr, hv, hs, hp, ho, hd]
                · refine (if_neg Bool.false_ne_true).trans ?_; simp [wd, wd2, w4, upd, q1, q2, q3, q4, cr, hv, hs, hp, ho, hd]
              · simp [q1, q2, q3, q4, cr, upd, hs, hp, ho, hd]
          · refine (if_neg (show ¬ (decide (c.2.2.1 ≥ 4294967295) = true) by simpa using ho)).trans ?_
            refine (bindE (central_fields.eq n _)).trans ?_
            refine (if_pos (show (0 : Int) ≤ 3 by decide)).trans ?_
            refine (if_pos (show (3 : Int) < ((4 : Nat) : Int) by decide)).trans ?_
            by_cases hd : 65535 ≤ c.2.1
            · refine (if_pos (show decide ((wr .u64 c.2.1) ≥ 65535) = true by rw [wd]; simpa using hd)).trans ?_
              refine (bindE (num4 _ (le8 _ l2))).trans ?_
              refine (bindE (a := (bxOf (upd c (q2 e st c).2 (q1 e st c).2 (q3 e st c).2 (q4 e st c).2), (!(rdS e (rdS e st 8).1 4).1.2 && ((e.length : Int) - ((rdS e (rdS e st 8).1 4).1.1 : Int) == 0)), ())) ?_).trans ?_
              · refine (bindE (sh _ _)).trans ?_
                cases hv : (rdS e (rdS e st 8).1 4).1.2
                · refine (if_pos rfl).trans ?_; refine (bindE (lf _ _ (le4 _ (le8 _ l2)))).trans ?_; simp [wd, wd2, w4, upd, q1, q2, q3, q4, cr, hv, hs, hp, ho, hd]
                · refine (if_neg Bool.false_ne_true).trans ?_; simp [wd, wd2, w4, upd, q1, q2, q3, q4, cr, hv, hs, hp, ho, hd]
              · simp [q1, q2, q3, q4, cr, upd, hs, hp, ho, hd]
            · refine (if_neg (show ¬ (decide ((wr .u64 c.2.1) ≥ 65535) = true) by rw [wd]; simpa using hd)).trans ?_
              refine (bindE (a := (bxOf (upd c (q2 e st c).2 (q1 e st c).2 (q3 e st c).2 (q4 e st c).2), (!(rdS e st 8).1.2 && ((e.length : Int) - ((rdS e st 8).1.1 : Int) == 0)), ())) ?_).trans ?_
              · refine (bindE (sh _ _)).trans ?_
                cases hv : (rdS e st 8).1.2
                · refine (if_pos rfl).trans ?_; refine (bindE (lf _ _ (le8 _ l2))).trans ?_; simp [wd, wd2, w4, upd, q1, q2, q3, q4, cr, hv, hs, hp, ho, hd]
                · refine (if_neg Bool.false_ne_true).trans ?_; simp [wd, wd2, w4, upd, q1, q2, q3, q4, cr, hv, hs, hp, ho, hd]
              · simp [q1, q2, q3, q4, cr, upd, hs, hp, ho, hd]
        · refine (if_neg (show ¬ (decide (c.1.2.2.2.1 ≥ 4294967295) = true) by simpa using hp)).trans ?_
          refine (bindE (central_fields.eq n _)).trans ?_
          refine (if_pos (show (0 : Int) ≤ 2 by decide)).trans ?_
          refine (if_pos (show (2 : Int) < ((4 : Nat) : Int) by decide)).trans ?_
          by_cases ho : 4294967295 ≤ c.2.2.1
          · refine (if_pos (show decide (c.2.2.1 ≥ 4294967295) = true by simpa using ho)).trans ?_
            refine (bindE (num8 _ l2)).trans ?_
            refine (bindE (central_fields.eq n _)).trans ?_
            refine (if_pos (show (0 : Int) ≤ 3 by decide)).trans ?_
            refine (if_pos (show (3 : Int) < ((4 : Nat) : Int) by decide)).trans ?_
            by_cases hd : 65535 ≤ c.2.1
            · refine (if_pos (show decide ((wr .u64 c.2.1) ≥ 65535) = true by rw [wd]; simpa using hd)).trans ?_
              refine (bindE (num4 _ (le8 _ l2))).trans ?_
              refine (bindE (a := (bxOf (upd c (q2 e st c).2 (q1 e st c).2 (q3 e st c).2 (q4 e st c).2), (!(rdS e (rdS e st 8).1 4).1.2 && ((e.length : Int) - ((rdS e (rdS e st 8).1 4).1.1 : Int) == 0)), ())) ?_).trans ?_
              · refine (bindE (sh _ _)).trans ?_
                cases hv : (rdS e (rdS e st 8).1 4).1.2
                · refine (if_pos rfl).trans ?_; refine (bindE (lf _ _ (le4 _ (le8 _ l2)))).trans ?_; simp [wd, wd2, w4, upd, q1, q2, q3, q4, cr, hv, hs, hp, ho, hd]
                · refine (if_neg Bool.false_ne_true).trans ?_; simp [wd, wd2, w4, upd, q1, q2, q3, q4, cr, hv, hs, hp, ho, hd]
              · simp [q1, q2, q3, q4, cr, upd, hs, hp, ho, hd]
            · refine (if_neg (show ¬ (decide ((wr .u64 c.2.1) ≥ 65535) = true) by rw [wd]; simpa using hd)).trans ?_
              refine (bindE (a := (bxOf (upd c (q2 e st c).2 (q1 e st c).2 (q3 e st c).2 (q4 e st c).2), (!(rdS e st 8).1.2 && ((e.length : Int) - ((rdS e st 8).1.1 : Int) == 0)), ())) ?_).trans ?_
              · refine (bindE (sh _ _)).trans ?_
                cases hv : (rdS e st 8).1.2
                · refine (if_pos rfl).trans ?_; refine (bindE (lf _ _ (le8 _ l2))).trans ?_; simp [wd, wd2, w4, upd, q1, q2, q3, q4, cr, hv, hs, hp, ho, hd]
                · refine (if_neg Bool.false_ne_true).trans ?_; simp [wd, wd2, w4, upd, q1, q2, q3, q4, cr, hv, hs, hp, ho, hd]
              · simp [q1, q2, q3, q4, cr, upd, hs, hp, ho, hd]
          · refine (if_neg (show ¬ (decide (c.2.2.1 ≥ 4294967295) = true) by simpa using ho)).trans ?_
            refine (bindE (central_fields.eq n _)).trans ?_
            refine (if_pos (show (0 : Int) ≤ 3 by decide)).trans ?_
            refine (if_pos (show (3 : Int) < ((4 : Nat) : Int) by decide)).trans ?_
            by_cases hd : 65535 ≤ c.2.1
            · refine (if_pos (show decide ((wr .u64 c.2.1) ≥ 65535) = true by rw [wd]; simpa using hd)).trans ?_
              refine (bindE (num4 _ l2)).trans ?_
              refine (bindE (a := (bxOf (upd c (q2 e st c).2 (q1 e st c).2 (q3 e st c).2 (q4 e st c).2), (!(rdS e st 4).1.2 && ((e.length : Int) - ((rdS e st 4).1.1 : Int) == 0)), ())) ?_).trans ?_
              · refine (bindE (sh _ _)).trans ?_
                cases hv : (rdS e st 4).1.2
                · refine (if_pos rfl).trans ?_; refine (bindE (lf _ _ (le4 _ l2))).trans ?_; simp [wd, wd2, w4, upd, q1, q2, q3, q4, cr, hv, hs, hp, ho, hd]
                · refine (if_neg Bool.false_ne_true).trans ?_; simp [wd, wd2, w4, upd, q1, q2, q3, q4, cr, hv, hs, hp, ho, hd]
              · simp [q1, q2, q3, q4, cr, upd, hs, hp, ho, hd]
            · refine (if_neg (show ¬ (decide ((wr .u64 c.2.1) ≥ 65535) = true) by rw [wd]; simpa using hd)).trans ?_
              refine (bindE (a := (bxOf (upd c (q2 e st c).2 (q1 e st c).2 (q3 e st c).2 (q4 e st c).2), (!st.2 && ((e.length : Int) - (st.1 : Int) == 0)), ())) ?_).trans ?_
              · refine (bindE (sh _ _)).trans ?_
                cases hv : st.2
                · refine (if_pos rfl).trans ?_; refine (bindE (lf _ _ l2)).trans ?_; simp [wd, wd2, w4, upd, q1, q2, q3, q4, cr, hv, hs, hp, ho, hd]
                · refine (if_neg Bool.false_ne_true).trans ?_; simp [wd, wd2, w4, upd, q1, q2, q3, q4, cr, hv, hs, hp, ho, hd]
              · simp [q1, q2, q3, q4, cr, upd, hs, hp, ho, hd]
    · have hj : (little_Reader_Num.f n ((e, (0 : Int), false, ()), (2 : Int), ())).bind (fun y67 => (if (y67.2.1 != (1 : Int)) = true then (some (bxOf c, (y67.1.1, y67.1.2.1, y67.1.2.2.1, ()), true, ())) else (little_Reader_Num.f n ((y67.1.1, y67.1.2.1, y67.1.2.2.1, ()), (2 : Int), ())).bind (fun y68 => (some (bxOf c, (y68.1.1, y68.1.2.1, y68.1.2.2.1, ()), (y68.2.1 != (wr IntKind.u64 (wr IntKind.i64 (((List.length e : Nat) : Int) - (4 : Int))))), ()))))) = some (bxOf c, (e, (r2.1.1 : Int), r2.1.2, ()), true, ()) := by
        refine (bindE n1).trans ?_
        rw [if_neg (by simp [h1])]
        refine (bindE n2).trans ?_
        rw [w1]
        simp [h2]
      refine (bindE hj).trans ?_
      rw [if_pos rfl, if_neg (by simp [h1]), if_pos h2]
  · have hj : (little_Reader_Num.f n ((e, (0 : Int), false, ()), (2 : Int), ())).bind (fun y67 => (if (y67.2.1 != (1 : Int)) = true then (some (bxOf c, (y67.1.1, y67.1.2.1, y67.1.2.2.1, ()), true, ())) else (little_Reader_Num.f n ((y67.1.1, y67.1.2.1, y67.1.2.2.1, ()), (2 : Int), ())).bind (fun y68 => (some (bxOf c, (y68.1.1, y68.1.2.1, y68.1.2.2.1, ()), (y68.2.1 != (wr IntKind.u64 (wr IntKind.i64 (((List.length e : Nat) : Int) - (4 : Int))))), ()))))) = some (bxOf c, (e, (r1.1.1 : Int), r1.1.2, ()), true, ()) := by
      refine (bindE n1).trans ?_
      rw [if_pos (by simp [h1])]
    refine (bindE hj).trans ?_
    rw [if_pos rfl, if_pos h1]
end Go.Proofs.YtcnegcjjeakmmaaDoor.Vm

