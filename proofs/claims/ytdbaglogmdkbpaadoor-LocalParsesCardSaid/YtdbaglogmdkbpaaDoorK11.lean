/- Names: the document's check and the program's. Conditions: as each theorem states them. -/
import Derived.Test.YtdbaglogmdkbpaaDoorK10
namespace Go.Proofs.YtdbaglogmdkbpaaDoor.Vm
open Go Go.RowKit
set_option linter.unusedVariables false
set_option linter.unusedSimpArgs false
set_option maxRecDepth 10000
@[reducible] def mayO : Int → Option Bool := fun c => some (mayV c)
@[reducible] def partO : ByteArray → Option Bool := fun t => some (partV t)
@[reducible] def RW : Type := (Int × Unit) ⊕ (ByteArray × Unit)
theorem tree_is (v : Int) (X : Option RW) : (if (decide (v < (32 : Int))) = true then (some (Sum.inl ((40 : Int), ()))) else (if (decide (v ≥ (127 : Int))) = true then (if (decide (v ≤ (159 : Int))) = true then (some (Sum.inl ((40 : Int), ()))) else (if (v == (92 : Int)) = true then (some (Sum.inl ((40 : Int), ()))) else (if (v == (58 : Int)) = true then (some (Sum.inl ((40 : Int), ()))) else (if (v == (65533 : Int)) = true then (some (Sum.inl ((40 : Int), ()))) else X)))) else (if (v == (92 : Int)) = true then (some (Sum.inl ((40 : Int), ()))) else (if (v == (58 : Int)) = true then (some (Sum.inl ((40 : Int), ()))) else (if (v == (65533 : Int)) = true then (some (Sum.inl ((40 : Int), ()))) else X))))) = if mayV v = true then X else (some (Sum.inl ((40 : Int), ())) : Option RW) := by
  by_cases h : mayV v = true
  · have h' := (mayV_iff v).1 h
    rw [if_pos h, if_neg (by simp; omega)]
    by_cases h1 : v ≥ 127
    · rw [if_pos (by simp; omega), if_neg (by simp; omega), if_neg (by simp; omega), if_neg (by simp; omega), if_neg (by simp; omega)]
    · rw [if_neg (by simp; omega), if_neg (by simp; omega), if_neg (by simp; omega), if_neg (by simp; omega)]
  · have h' : ¬ (32 ≤ v ∧ (v < 127 ∨ 159 < v) ∧ v ≠ 92 ∧ v ≠ 58 ∧ v ≠ 65533) := fun g => h ((mayV_iff v).2 g)
    rw [if_neg h]
    by_cases a1 : v < 32
    · rw [if_pos (by simp; omega)]
    rw [if_neg (by simp; omega)]
    by_cases a2 : v = 92
    · subst a2; rfl
    by_cases a3 : v = 58
    · subst a3; rfl
    by_cases a4 : v = 65533
    · subst a4; rfl
    rw [if_pos (by simp; omega), if_pos (by simp; omega)]
theorem scan_ref {n m : Nat} (hn : 1000 ≤ n) {s : ByteArray} (hs : s.size ≤ 1000000) : ∀ (k pos : Nat) (b : Bool), pos ≤ 2000000 → Nm.scan mayO k s pos = some b → ref16_Check.l0 n m k (s, (pos : Int), ()) = some (if b = true then Sum.inr (s, ()) else Sum.inl (40, ()))
  | 0, pos, b, _, h => by cases h
  | k + 1, pos, b, hp, h => by
    unfold Nm.scan at h
    rw [ref16_Check.l0_eq]
    by_cases c : pos < s.size
    · rw [if_pos c, Option.bind_some] at h
      rw [if_pos (by simp; omega), rune_is hn hs c, Option.bind_some]
      have e := Lib.decode_at s pos
      have hr := rune_same (s.size - pos) (bt s pos) (bt s (pos + 1)) (bt s (pos + 2)) (bt s (pos + 3)) (bt_lt _ _) (bt_lt _ _) (bt_lt _ _) (bt_lt _ _)
      have e' : Go.Utf8.decode s pos = Lib.decodeN (s.size - pos) (bt s pos) (bt s (pos + 1)) (bt s (pos + 2)) (bt s (pos + 3)) := e
      rw [← e'] at hr
      refine (tree_is _ _).trans ?_
      rcases hr with hr | ⟨hr1, hr2⟩
      · rw [hr]
        dsimp only
        by_cases hm : mayV ((Go.Utf8.decode s pos).1 : Int) = true
        · rw [if_pos hm] at h ⊢
          have hw := Lib.decodeN_width_le (s.size - pos) (bt s pos) (bt s (pos + 1)) (bt s (pos + 2)) (bt s (pos + 3)) (by omega)
          rw [← e'] at hw
          rw [wr64 (by omega) (by omega), show (pos : Int) + ((Go.Utf8.decode s pos).2 : Int) = ((pos + (Go.Utf8.decode s pos).2 : Nat) : Int) by omega]
          exact scan_ref hn hs k _ b (by omega) h
        · rw [if_neg hm] at h ⊢
          cases h
          rfl
      · rw [hr2, if_neg (show ¬ mayV ((65533 : Nat) : Int) = true by decide)] at h
        cases h
        rw [hr1]
        exact if_neg (by decide)
    · rw [if_neg c] at h
      cases h
      rw [if_neg (by simp; omega)]
      rfl
/-- a name's parts -/
def splitF : Nat → ByteArray → List ByteArray
  | 0, _ => []
  | k + 1, t => Nm.hd t :: if Nm.idx t < 0 then [] else splitF k (Nm.tl t)
theorem chk_split : ∀ (k : Nat) (t : ByteArray), t.size < k → Nm.chk partO k t = some ((splitF k t).all partV)
  | 0, t, h => absurd h (by omega)
  | k + 1, t, h => by
    unfold Nm.chk splitF
    rw [Option.bind_some, List.all_cons]
    cases partV (Nm.hd t) with
    | false => rfl
    | true =>
      rw [if_pos rfl, Bool.true_and]
      by_cases hi : Nm.idx t < 0
      · rw [if_pos hi, if_pos hi]; rfl
      · rw [if_neg hi, if_neg hi]
        refine chk_split k _ ?_
        have hr := Nm.idx_range t
        unfold Nm.tl
        rw [ByteArray.size_extract]
        omega
theorem ext_get (s : ByteArray) (a k : Nat) : (s.extract a s.size).data.toList[k]? = s.data.toList[a + k]? := by
  rw [ByteArray.data_extract, Array.toList_extract, List.extract_eq_take_drop, List.getElem?_take, List.getElem?_drop]
  split
  · rfl
  · rename_i h
    rw [List.getElem?_eq_none]
    have : s.data.toList.length = s.size := by first | rfl | simp
    omega
theorem bt_get {s : ByteArray} {i : Nat} (h : i < s.size) : s.data.toList[i]? = some (47 : UInt8) ↔ bt s i = 47 := by
  have h2 : i < s.data.size := h
  have hl : i < s.data.toList.length := by simpa using h2
  rw [List.getElem?_eq_getElem hl]
  unfold bt
  show some (s.data.toList[i]) = some 47 ↔ (s.data[i]!).toNat = 47
  rw [getElem!_pos s.data i h2, Array.getElem_toList]
  constructor
  · intro e; rw [Option.some.inj e]; rfl
  · intro e; rw [show s.data[i] = 47 from UInt8.toNat_inj.1 e]
def noS (s : ByteArray) (a i : Nat) : Prop := ∀ j, a ≤ j → j < i → bt s j ≠ 47
theorem idx_none {s : ByteArray} {a : Nat} (ha : a ≤ s.size) (h : noS s a s.size) : Nm.idx (s.extract a s.size) < 0 := by
  rcases Nm.idx_range (s.extract a s.size) with e | ⟨e1, e2⟩
  · omega
  · exfalso
    rw [ByteArray.size_extract] at e2
    obtain ⟨o, ho⟩ := Int.eq_ofNat_of_zero_le e1
    have := (Lib.indexByte_some (l := (s.extract a s.size).data.toList) (c := 47) (o := o) ho).1
    rw [ext_get] at this
    exact h (a + o) (by omega) (by omega) ((bt_get (by omega)).1 this)
theorem idx_at {s : ByteArray} {a i : Nat} (hi : i < s.size) (ha : a ≤ i) (h : noS s a i) (h47 : bt s i = 47) : Nm.idx (s.extract a s.size) = ((i - a : Nat) : Int) := by
  have g := (bt_get hi).2 h47
  rcases Nm.idx_range (s.extract a s.size) with e | ⟨e1, e2⟩
  · exfalso
    have := Lib.indexByte_none (l := (s.extract a s.size).data.toList) (c := 47) e (i - a)
    rw [ext_get, show a + (i - a) = i by omega] at this
    exact this g
  · obtain ⟨o, ho⟩ := Int.eq_ofNat_of_zero_le e1
    have hlt : (a + o : Nat) < s.size := by rw [ByteArray.size_extract] at e2; omega
    obtain ⟨k1, k2⟩ := Lib.indexByte_some (l := (s.extract a s.size).data.toList) (c := 47) (o := o) ho
    rw [ext_get] at k1
    have k1' := (bt_get hlt).1 k1
    rw [ho]
    by_cases h1 : o < i - a
    · exact absurd k1' (h (a + o) (by omega) (by omega))
    · by_cases h2 : i - a < o
      · have := k2 (i - a) h2
        rw [ext_get, show a + (i - a) = i by omega] at this
        exact absurd g this
      · omega
theorem parts_l0 {n m : Nat} {s : ByteArray} (hs : s.size ≤ 1000000) : ∀ (d i a k K : Nat) (out : List ByteArray), i + d = s.size → a ≤ i → noS s a i → out.length ≤ a → d + 1 < k → s.size - a < K → ref16_Parts.l0 n m k (s, out, (a : Int), (i : Int), ()) = some (out ++ splitF K (s.extract a s.size), ())
  | d, i, a, 0, K, out, _, _, _, _, h, _ => absurd h (by omega)
  | d, i, a, k + 1, 0, out, _, _, _, _, h, h' => absurd h' (by omega)
  | 0, i, a, k + 1, K + 1, out, hi, ha, hno, hl, hk, hK => by
    have hi : i = s.size := by omega
    subst hi
    obtain ⟨k, rfl⟩ : ∃ k', k = k' + 1 := ⟨k - 1, by omega⟩
    have hx := idx_none ha hno
    rw [ref16_Parts.l0_eq, if_pos (by simp), if_pos (by simp), if_pos (by omega), if_pos (by omega), if_pos (by omega), if_pos (lim_of (by simp; omega)), wr64 (by omega) (by omega), ref16_Parts.l0_eq, if_neg (by simp <;> omega)]
    unfold splitF
    rw [if_pos hx, Int.toNat_natCast, Int.toNat_natCast]
    unfold Nm.hd
    rw [if_pos hx]
  | d + 1, i, a, k + 1, K + 1, out, hi, ha, hno, hl, hk, hK => by
    have hlt : i < s.size := by omega
    rw [ref16_Parts.l0_eq, if_pos (by simp; omega), if_neg (by simp; omega), if_pos (by omega), if_pos (by omega), Int.toNat_natCast, get_bt hlt]
    by_cases h47 : bt s i = 47
    · have hx := idx_at hlt ha hno h47
      rw [if_pos (by simp; omega), if_pos (by omega), if_pos (by omega), if_pos (by omega), if_pos (lim_of (by simp; omega)), wr64 (by omega) (by omega), Int.toNat_natCast, show (i : Int) + 1 = ((i + 1 : Nat) : Int) by omega]
      rw [parts_l0 hs d (i + 1) (i + 1) k K _ (by omega) (Nat.le_refl _) (fun j h1 h2 => by omega) (by simp; omega) (by omega) (by omega)]
      have e1 : Nm.hd (s.extract a s.size) = s.extract a i := by
        unfold Nm.hd
        rw [if_neg (by omega), hx, Int.toNat_natCast, ByteArray.extract_extract]
        congr 1
        omega
      have e2 : Nm.tl (s.extract a s.size) = s.extract (i + 1) s.size := by
        unfold Nm.tl
        rw [hx, Int.toNat_natCast, ByteArray.extract_extract, ByteArray.size_extract]
        congr 1 <;> omega
      conv => rhs; unfold splitF
      rw [e1, e2, if_neg (by omega), List.append_assoc]
      rfl
    · rw [if_neg (by simp; omega), wr64 (by omega) (by omega), show (i : Int) + 1 = ((i + 1 : Nat) : Int) by omega]
      exact parts_l0 hs d (i + 1) a k (K + 1) out (by omega) (by omega) (fun j h1 h2 => by
        by_cases e : j = i
        · subst e; exact h47
        · exact hno j h1 (by omega)) hl (by omega) hK
theorem l2_is {n m : Nat} {xs : List ByteArray} (hl : xs.length ≤ 1000000) : ∀ (d i k : Nat), i + d = xs.length → d < k → ref16_Check.l2 n m k (xs, (i : Int), ()) = some (if (xs.drop i).all partV = true then Sum.inr () else Sum.inl (40, ()))
  | 0, i, 0, _, h => absurd h (by decide)
  | d + 1, i, 0, _, h => absurd h (by omega)
  | 0, i, k + 1, hi, hk => by
    rw [ref16_Check.l2_eq, if_neg (by simp; omega), List.drop_eq_nil_of_le (by omega)]
    rfl
  | d + 1, i, k + 1, hi, hk => by
    have hlt : i < xs.length := by omega
    have e : xs.getD i ByteArray.empty = xs[i] := by rw [List.getD_eq_getElem?_getD, List.getElem?_eq_getElem hlt]; rfl
    rw [ref16_Check.l2_eq, if_pos (by simp; omega), if_pos (by omega), if_pos (by omega), Int.toNat_natCast, e, List.drop_eq_getElem_cons hlt, List.all_cons]
    unfold partV
    by_cases h1 : (ByteArray.toList xs[i] == ByteArray.toList ByteArray.empty) = true
    · rw [if_pos h1, h1]; rfl
    · rw [if_neg h1, if_pos (by omega), if_pos (by omega)]
      have h1' : (ByteArray.toList xs[i] == ByteArray.toList ByteArray.empty) = false := by simpa using h1
      by_cases h2 : (ByteArray.toList xs[i] == ByteArray.toList (ByteArray.mk #[46])) = true
      · rw [if_pos h2, h2, h1']; rfl
      · have h2' : (ByteArray.toList xs[i] == ByteArray.toList (ByteArray.mk #[46])) = false := by simpa using h2
        rw [if_neg h2, if_pos (by omega), if_pos (by omega)]
        by_cases h3 : (ByteArray.toList xs[i] == ByteArray.toList (ByteArray.mk #[46, 46])) = true
        · rw [if_pos h3, h3, h2', h1']; rfl
        · have h3' : (ByteArray.toList xs[i] == ByteArray.toList (ByteArray.mk #[46, 46])) = false := by simpa using h3
          rw [if_neg h3, wr64 (by omega) (by omega), show (i : Int) + 1 = ((i + 1 : Nat) : Int) by omega, l2_is hl d (i + 1) k (by omega) (by omega), h1', h2', h3']
          rfl
theorem splitF_len : ∀ (k : Nat) (t : ByteArray), t.size < k → (splitF k t).length ≤ t.size + 1
  | 0, t, h => absurd h (by omega)
  | k + 1, t, h => by
    unfold splitF
    rw [List.length_cons]
    by_cases hi : Nm.idx t < 0
    · rw [if_pos hi]; simp
    · rw [if_neg hi]
      have hr := Nm.idx_range t
      have hs : (Nm.tl t).size + 1 ≤ t.size := by
        unfold Nm.tl
        rw [ByteArray.size_extract]
        omega
      have := splitF_len k (Nm.tl t) (by omega)
      omega
theorem rname_is {n : Nat} (hn : 1000 ≤ n) (x : ByteArray × Unit) : ref16_Check.f n x = some (nmV n x.1, ()) := by
  obtain ⟨s, u⟩ := x
  refine (ref16_Check.eq n s).trans ?_
  show _ = some (nmV n s, ())
  by_cases h0 : s.size < 1
  · rw [if_pos (by simp; omega), nmV_long (.inl (by omega))]
  by_cases h1 : 255 < s.size
  · rw [if_neg (by simp; omega), if_pos (by simp; omega), nmV_long (.inr h1)]
  rw [if_neg (by simp; omega), if_neg (by simp; omega)]
  have hv := (check_total (n := n) (by omega) s).1
  unfold Nm.checkN at hv
  rw [if_neg (by omega)] at hv
  obtain ⟨b, hb⟩ := scan_total s n 0 (by omega) (by omega)
  rw [hb, Option.bind_some] at hv
  have g1 := scan_ref (n := n) (m := n) hn (s := s) (by omega) n 0 b (by omega) hb
  refine (congrArg (Option.bind · _) g1).trans ?_
  rw [Option.bind_some]
  cases b with
  | false =>
    cases hv' : nmV n s with
    | ofNat v => rw [hv'] at hv; cases hv; rfl
    | negSucc v => rw [hv'] at hv; cases hv
  | true =>
    rw [if_pos rfl, chk_split n s (by omega), Option.bind_some] at hv
    have e0 : s.extract 0 s.size = s := ByteArray.extract_zero_size
    have g2 := parts_l0 (n := n) (m := n) (s := s) (by omega) s.size 0 0 n n [] (by omega) (Nat.le_refl _) (fun j h1 h2 => by omega) (by simp) (by omega) (by omega)
    rw [e0, List.nil_append] at g2
    have g3 := l2_is (n := n) (m := n) (xs := splitF n s) (by have := splitF_len n s (by omega); omega) (splitF n s).length 0 n (by omega) (by have := splitF_len n s (by omega); omega)
    show (ref16_Parts.f n (s, ())).bind _ = _
    rw [ref16_Parts.eq]
    refine (congrArg (fun q => Option.bind (Option.bind q _) _) g2).trans ?_
    show (ref16_Check.l2 n n n (splitF n s, 0, ())).bind _ = _
    refine (congrArg (Option.bind · _) g3).trans ?_
    rw [Option.bind_some, List.drop_zero]
    rw [← Option.some.inj hv]
    cases (splitF n s).all partV <;> rfl
end Go.Proofs.YtdbaglogmdkbpaaDoor.Vm
