/- Operations over slices, structs and addresses are as the program's. Conditions: as each theorem states them. -/
import Derived.Test.YtlioalaehkohlaaDoorV5
import Derived.Laws.OwnMore
import Derived.Laws.Slices
import Derived.Laws.Strings
import Derived.Laws.Tables
import Derived.Laws.BytesString
import Derived.Lib.ConvBytes
import Derived.Maps.AppendAt
namespace Go.Proofs.YtlioalaehkohlaaDoor.Vm
open Go Go.RowKit
set_option linter.unusedVariables false
set_option linter.unusedSimpArgs false
/-- Elements, one behind the other, as cells. -/
def ER (w : World) (F : Nat → Prop) (k : Ki) : List k.den → List Value → Prop
  | [], cs => cs = []
  | x :: r, cs => ∃ c1 c2, cs = c1 ++ c2 ∧ VR w F k x c1 ∧ ER w F k r c2
section
variable {w w' : World} {F F' : Nat → Prop} {k : Ki}
theorem ER.len : ∀ {xs : List k.den} {cs : List Value}, ER w F k xs cs → cs.length = xs.length * k.sz
  | [], _, h => by cases h; simp
  | x :: r, _, h => by
    obtain ⟨c1, c2, rfl, h1, h2⟩ := h
    rw [List.length_append, h1.len, h2.len, List.length_cons, Nat.add_mul, Nat.one_mul, Nat.add_comm]
theorem ER.one : ∀ {xs : List k.den} {cs : List Value}, ER w F k xs cs → ∀ u ∈ cs, u.oneCell' = true
  | [], _, h => by cases h; simp
  | x :: r, _, h => by
    obtain ⟨c1, c2, rfl, h1, h2⟩ := h
    intro u hu
    rcases List.mem_append.1 hu with h | h
    · exact h1.one u h
    · exact h2.one u h
theorem ER.mono (hF : ∀ b, F b → F' b ∧ w'.heap[b]? = w.heap[b]?) : ∀ {xs : List k.den} {cs : List Value}, ER w F k xs cs → ER w' F' k xs cs
  | [], _, h => h
  | x :: r, _, h => by
    obtain ⟨c1, c2, h0, h1, h2⟩ := h
    exact ⟨c1, c2, h0, h1.mono hF, h2.mono hF⟩
theorem ER.append : ∀ {xs ys : List k.den} {cs ds : List Value}, ER w F k xs cs → ER w F k ys ds → ER w F k (xs ++ ys) (cs ++ ds)
  | [], ys, _, ds, h, h' => by cases h; exact h'
  | x :: r, ys, _, ds, h, h' => by
    obtain ⟨c1, c2, rfl, h1, h2⟩ := h
    exact ⟨c1, c2 ++ ds, by rw [List.append_assoc], h1, h2.append h'⟩
theorem CellsAt.app {b o : Nat} {c1 c2 : List Value} (h : CellsAt w b o (c1 ++ c2)) : CellsAt w b o c1 ∧ CellsAt w b (o + c1.length) c2 := by
  refine ⟨fun j v hj => h j v ?_, fun j v hj => ?_⟩
  · rw [List.getElem?_append_left (List.getElem?_eq_some_iff.1 hj).1]; exact hj
  · rw [Nat.add_assoc]
    exact h (c1.length + j) v (by rw [List.getElem?_append_right (by omega), Nat.add_sub_cancel_left]; exact hj)
theorem CellsAt.join {b o : Nat} {c1 c2 : List Value} (h1 : CellsAt w b o c1) (h2 : CellsAt w b (o + c1.length) c2) : CellsAt w b o (c1 ++ c2) := fun j v hj => by
  by_cases hl : j < c1.length
  · rw [List.getElem?_append_left hl] at hj; exact h1 j v hj
  · rw [List.getElem?_append_right (by omega)] at hj
    have := h2 (j - c1.length) v hj
    rwa [show o + c1.length + (j - c1.length) = o + j by omega] at this
theorem ER.spread {b : Nat} : ∀ {xs : List k.den} {cs : List Value} {o : Nat}, ER w F k xs cs → CellsAt w b o cs → ∀ i x, xs[i]? = some x → ∃ ds, VR w F k x ds ∧ CellsAt w b (o + i * k.sz) ds
  | [], _, o, h, hc, i, x, hx => by simp at hx
  | y :: r, _, o, h, hc, i, x, hx => by
    obtain ⟨c1, c2, rfl, h1, h2⟩ := h
    obtain ⟨hc1, hc2⟩ := hc.app
    cases i with
    | zero =>
      have : y = x := by simpa using hx
      subst this
      exact ⟨c1, h1, by simpa using hc1⟩
    | succ i =>
      obtain ⟨ds, g1, g2⟩ := h2.spread hc2 i x (by simpa using hx)
      rw [h1.len] at g2
      exact ⟨ds, g1, by rw [Nat.add_mul, Nat.one_mul, Nat.add_comm (i * k.sz), ← Nat.add_assoc]; exact g2⟩
theorem ER.gather {b : Nat} : ∀ {xs : List k.den} {o : Nat}, (∀ i x, xs[i]? = some x → ∃ ds, VR w F k x ds ∧ CellsAt w b (o + i * k.sz) ds) → ∃ cs, ER w F k xs cs ∧ CellsAt w b o cs
  | [], o, h => ⟨[], rfl, fun j v hj => by simp at hj⟩
  | y :: r, o, h => by
    obtain ⟨c1, h1, h2⟩ := h 0 y (by simp)
    obtain ⟨c2, h3, h4⟩ := ER.gather (xs := r) (o := o + k.sz) (fun i x hx => by
      obtain ⟨ds, g1, g2⟩ := h (i + 1) x (by simpa using hx)
      refine ⟨ds, g1, ?_⟩
      rwa [show o + (i + 1) * k.sz = o + k.sz + i * k.sz by rw [Nat.add_mul, Nat.one_mul]; omega] at g2)
    refine ⟨c1 ++ c2, ⟨c1, c2, rfl, h1, h3⟩, CellsAt.join (by simpa using h2) (by rw [h1.len]; exact h4)⟩
theorem ER.rep {x : k.den} {c : List Value} (h : VR w F k x c) : ∀ n : Nat, ∃ cs, ER w F k (List.replicate n x) cs ∧ cs = (List.replicate n c).flatten
  | 0 => ⟨[], rfl, by simp⟩
  | n + 1 => by
    obtain ⟨cs, h1, h2⟩ := ER.rep h n
    exact ⟨c ++ cs, ⟨c, cs, rfl, h, h1⟩, by rw [List.replicate_succ, List.flatten_cons, h2]⟩
end
section
variable {C : Ctx} {S : St} {E : Env} {q : Nat} {a : Act} {o : Oper} {R : Type} {T : Tys}
/-- A slice, by its cells. -/
theorem list_cells {k : Ki} {xs : List k.den} {v : Value} (h : VRv E.w (E.F C) (.list k) xs v) : ∃ A c, v = .slice A xs.length c ∧ xs.length ≤ c ∧ c ≤ maxLen ∧ ((xs = [] ∧ True) ∨ ∃ b o cs, A = some ⟨b, o, none⟩ ∧ E.F C b ∧ ER E.w (E.F C) k xs cs ∧ CellsAt E.w b o cs) := by
  have h' : VR E.w (E.F C) (.list k) xs [v] := by simpa [VRv, Ki.agg] using h
  obtain ⟨A, c, h1, h2, h3, h4⟩ := h'
  refine ⟨A, c, by simpa using h1, h2, h3, ?_⟩
  cases xs with
  | nil => exact .inl ⟨rfl, trivial⟩
  | cons y r =>
    right
    obtain ⟨b, o, ds, ha, hb, _, _⟩ := h4 0 y (by simp)
    obtain ⟨cs, g1, g2⟩ := ER.gather (w := E.w) (F := E.F C) (b := b) (xs := y :: r) (o := o) (fun i x hx => by
      obtain ⟨b', o', ds, ha', hb', hv, hc⟩ := h4 i x hx
      rw [ha] at ha'
      cases ha'
      exact ⟨ds, hv, hc⟩)
    exact ⟨b, o, cs, ha, hb, g1, g2⟩
theorem VRv.of_list {w : World} {F : Nat → Prop} {k : Ki} {xs : List k.den} {b o c : Nat} {cs : List Value} (hb : F b) (h : ER w F k xs cs) (hc : CellsAt w b o cs) (hl : xs.length ≤ c) (hm : c ≤ maxLen) : VRv w F (.list k) xs (.slice (some ⟨b, o, none⟩) xs.length c) := by
  show (if Ki.agg (.list k) = true then _ else _)
  rw [if_neg (by simp [Ki.agg])]
  exact ⟨_, c, rfl, hl, hm, fun i x hx => by
    obtain ⟨ds, h1, h2⟩ := h.spread hc i x hx
    exact ⟨b, o, ds, rfl, hb, h1, h2⟩⟩
theorem VRv.of_nil (w : World) (F : Nat → Prop) (k : Ki) (A : Option Addr) (c : Nat) (hm : c ≤ maxLen) : VRv w F (.list k) ([] : List k.den) (.slice A 0 c) := by
  show (if Ki.agg (.list k) = true then _ else _)
  rw [if_neg (by simp [Ki.agg])]
  exact ⟨_, c, rfl, Nat.zero_le _, hm, fun i x hx => by simp at hx⟩
/-- A row as a shared slice, once it is frozen. -/
theorem row_shared (h : RelE C S E a) {id : Nat} {r : RowC} (hr : S.rows id = some r) {l : List Nat} (hl : id ∈ l) : VRv (E.drops l).w ((E.drops l).F C) (.list r.k) r.xs (E.rv id) := by
  rcases h.rows id r hr with ⟨h1, h2⟩ | ⟨g, c, h1, h2, h2', h3, h4⟩
  · rw [h2, h1]; exact VRv.of_nil _ _ _ _ _ (Nat.zero_le _)
  · rw [h1]
    obtain ⟨cs, g1, g2⟩ := ER.gather (w := E.w) (F := E.F C) (b := g) (o := 0) (xs := r.xs) (fun i x hx => by
      obtain ⟨ds, g1, g2⟩ := h3 i x hx
      exact ⟨ds, g1, by simpa using g2⟩)
    refine VRv.of_list ?_ (g1.mono (le_drops (C := C) (E := E) l).F) g2 h2 h2'
    by_cases hf : r.fz = true
    · rw [if_pos hf] at h4; exact ((le_drops (C := C) (E := E) l).F g h4).1
    · rw [if_neg hf] at h4
      refine ⟨?_, .inr (h.ownlt g _ h4.1).2, (h.ownlt g _ h4.1).1⟩
      show (match E.own g with | some (.inl i) => if l.contains i then none else some (.inl i) | x => x) = none
      rw [h4.1]
      simp [hl]
theorem unnl_ok {s : SV} {v : Value} (h : SVR C E s v) : SVR C E (unnl s) v := by
  unfold unnl
  split
  · rename_i k x
    have h' : VR E.w (E.F C) (.nl k) x [v] := by simpa [SVR, VRv, Ki.agg] using h
    rcases h' with ⟨hx, e1⟩ | ⟨xs, ad, c, hx, e1, h2, h3, h4⟩
    · have hx : x = none := hx
      subst hx
      cases e1
      exact VRv.of_nil _ _ _ _ _ (Nat.zero_le _)
    · have hx : x = some xs := hx
      subst hx
      cases e1
      show VRv _ _ (.list k) xs _
      unfold VRv
      rw [if_neg (by simp [Ki.agg])]
      refine ⟨_, c, rfl, h2, h3, fun i z hz => ?_⟩
      obtain ⟨b, o, ds, ha, hr⟩ := h4 i z hz
      exact ⟨b, o, ds, by rw [ha], hr⟩
  · exact h
theorem noneE_ok {β R : Type} {l : List β} {K : Option R} {r : R} (h : noneE l K = some r) : l ≠ [] ∧ K = some r := by
  unfold noneE at h
  split at h
  · cases h
  · exact ⟨by simp, h⟩
theorem nl_of_list {w : World} {F : Nat → Prop} {k : Ki} {xs : List k.den} {v : Value} (hx : xs ≠ []) (h : VRv w F (.list k) xs v) : VRv w F (.nl k) (some xs) v := by
  have h' : VR w F (.list k) xs [v] := by simpa [VRv, Ki.agg] using h
  obtain ⟨A, c, h1, h2, h3, h4⟩ := h'
  unfold VRv
  rw [if_neg (by simp [Ki.agg])]
  cases xs with
  | nil => exact absurd rfl hx
  | cons y ys =>
    obtain ⟨b, o, ds, ha, _⟩ := h4 0 y (by simp)
    subst ha
    refine .inr ⟨y :: ys, ⟨b, o, none⟩, c, rfl, h1, h2, h3, fun i z hz => ?_⟩
    obtain ⟨b', o', ds', ha', hr⟩ := h4 i z hz
    cases ha'
    exact ⟨b, o, ds', rfl, hr⟩
theorem nl_of_nn {w : World} {F : Nat → Prop} {k : Ki} {xs : List k.den} {v : Value} (h : VRv w F (.list k) xs v) (hn : ∃ ad n c, v = .slice (some ad) n c) : VRv w F (.nl k) (some xs) v := by
  have h' : VR w F (.list k) xs [v] := by simpa [VRv, Ki.agg] using h
  obtain ⟨A, c, h1, h2, h3, h4⟩ := h'
  obtain ⟨ad, n, c', e⟩ := hn
  subst e
  cases h1
  unfold VRv
  rw [if_neg (by simp [Ki.agg])]
  refine .inr ⟨xs, ad, c, rfl, rfl, h2, h3, fun i z hz => ?_⟩
  obtain ⟨b', o', ds', ha', hr⟩ := h4 i z hz
  cases ha'
  exact ⟨_, _, ds', rfl, hr⟩
theorem rdN_ok {k : Ki} {s : SV} {K : Option (List k.den) → List Nat → Option R} {r : R} (hK : rdN S.rows k s K = some r) : ∃ x fz, K x fz = some r ∧
    ∀ {E : Env} {a : Act} {v : Value} {l : List Nat}, RelE C S E a → SVR C E s v → (∀ i ∈ fz, i ∈ l) → VRv (E.drops l).w ((E.drops l).F C) (.nl k) x v := by
  unfold rdN at hK
  split at hK
  · refine ⟨_, _, hK, fun {E a v l} h hs hl => ?_⟩
    have hs' : v = .slice none 0 0 := hs
    rw [hs']
    unfold VRv
    rw [if_neg (by simp [Ki.agg])]
    exact .inl ⟨rfl, rfl⟩
  · split at hK
    · rename_i hk
      subst hk
      exact ⟨_, _, hK, fun h hs hl => VRv.mono (le_drops (C := C) _).F hs⟩
    · cases hK
  · split at hK
    · rename_i hk
      subst hk
      obtain ⟨h1, h2⟩ := noneE_ok hK
      exact ⟨_, _, h2, fun h hs hl => nl_of_list h1 (VRv.mono (le_drops (C := C) _).F hs)⟩
    · cases hK
  · split at hK
    · rename_i hk
      subst hk
      exact ⟨_, _, hK, fun h hs hl => nl_of_nn (VRv.mono (le_drops (C := C) _).F hs.1) hs.2⟩
    · cases hK
  · split at hK
    · rename_i r' hr
      split at hK
      · rename_i hk
        subst hk
        obtain ⟨h1, h2⟩ := noneE_ok hK
        refine ⟨_, _, h2, fun {E a v l} h hs hl => ?_⟩
        rw [hs.2]
        exact nl_of_list h1 (row_shared h hr (hl _ (by simp)))
      · cases hK
    · cases hK
  · cases hK
theorem rd1_ok {k : Ki} {s : SV} {K : k.den → List Nat → Option R} {r : R} (hK : rd1 S.rows k s K = some r) : ∃ x fz, K x fz = some r ∧
    ∀ {E : Env} {a : Act} {v : Value} {l : List Nat}, RelE C S E a → SVR C E s v → (∀ i ∈ fz, i ∈ l) → VRv (E.drops l).w ((E.drops l).F C) k x v := by
  unfold rd1 at hK
  split at hK
  · rename_i k' x _
    split at hK
    · rename_i hk
      subst hk
      exact ⟨_, _, hK, fun h hs hl => VRv.mono (le_drops (C := C) _).F hs⟩
    · cases hK
  · rename_i k' _
    refine ⟨_, _, hK, fun {E a v l} h hs hl => ?_⟩
    have hs' : v = .slice none 0 0 := hs
    rw [hs']
    exact VRv.of_nil _ _ _ _ _ (Nat.zero_le _)
  · rename_i k' xs _ _
    split at hK
    · rename_i hk
      subst hk
      exact ⟨_, _, hK, fun h hs hl => VRv.mono (le_drops (C := C) _).F hs.1⟩
    · cases hK
  · rename_i id _ _ _
    split at hK
    · rename_i r' hr
      split at hK
      · rename_i hk
        subst hk
        refine ⟨_, _, hK, fun {E a v l} h hs hl => ?_⟩
        rw [hs.2]
        exact row_shared h hr (hl _ (by simp))
      · cases hK
    · cases hK
  · rename_i k _ k' x _
    split at hK
    · rename_i hk
      subst hk
      refine ⟨_, _, hK, fun {E a v l} h hs hl => ?_⟩
      obtain ⟨b, o, ds, h1, h2, h3, h4⟩ := hs
      obtain ⟨g1, g2⟩ := (le_drops (C := C) (E := E) l).F b h2
      unfold VRv
      rw [if_neg (by simp [Ki.agg])]
      exact .inr ⟨x, b, o, ds, rfl, by rw [h1], g1, h3.mono (le_drops (C := C) (E := E) l).F, h4.mono g2⟩
    · cases hK
  · cases hK
theorem rdK_ok {k : Ki} {s : SV} {K : k.den → List Nat → Option R} {r : R} (hK : rdK S.rows k s K = some r) : ∃ x fz, K x fz = some r ∧
    ∀ {E : Env} {a : Act} {v : Value} {l : List Nat}, RelE C S E a → SVR C E s v → (∀ i ∈ fz, i ∈ l) → VRv (E.drops l).w ((E.drops l).F C) k x v := by
  cases k with
  | nl k => exact rdN_ok hK
  | list k =>
    obtain ⟨x, fz, h1, h2⟩ := rd1_ok (C := C) (k := .list k) hK
    exact ⟨x, fz, h1, fun {E a v l} h hs hl => h2 h (unnl_ok hs) hl⟩
  | _ => exact rd1_ok hK
end
end Go.Proofs.YtlioalaehkohlaaDoor.Vm
