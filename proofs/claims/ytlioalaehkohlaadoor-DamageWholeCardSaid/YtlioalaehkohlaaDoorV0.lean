/- A small verified machine over the program's code: the kinds of its values, and how they lie in memory. Conditions: as each theorem states them. -/
import Derived.Test.YtlioalaehkohlaaDoorProg
import Derived.Laws.AppendOwn
import Derived.Below
import Derived.Calls
import Derived.Tactics
import Derived.Orders
namespace Go.Proofs.YtlioalaehkohlaaDoor.Vm
open Go Go.RowKit
set_option linter.unusedVariables false
set_option linter.unusedSimpArgs false
inductive Ki where
  | int (k : IntKind) | bool | str | unit | list (k : Ki) | pair (a b : Ki) | arr (n : Nat) (k : Ki) | ref (k : Ki) | nl (k : Ki)
  deriving DecidableEq
@[reducible] def Ki.den : Ki → Type
  | .int _ => Int
  | .bool => Bool
  | .str => ByteArray
  | .unit => Unit
  | .list k => List k.den
  | .pair a b => a.den × b.den
  | .arr _ k => List k.den
  | .ref k => Option k.den
  | .nl k => Option (List k.den)
def Ki.sz : Ki → Nat
  | .int _ => 1
  | .bool => 1
  | .str => 1
  | .unit => 0
  | .list _ => 1
  | .pair a b => a.sz + b.sz
  | .arr n k => n * k.sz
  | .ref _ => 1
  | .nl _ => 1
def Ki.agg : Ki → Bool
  | .unit => true
  | .pair _ _ => true
  | .arr _ _ => true
  | _ => false
def Ki.zero : (k : Ki) → k.den
  | .int _ => (0 : Int)
  | .bool => false
  | .str => ByteArray.empty
  | .unit => ()
  | .list k => ([] : List k.den)
  | .pair a b => (a.zero, b.zero)
  | .arr n k => List.replicate n k.zero
  | .ref _ => none
  | .nl _ => none
/-- Elements, one behind the other. -/
def ERl {α : Type} (R : α → List Value → Prop) : List α → List Value → Prop
  | [], cs => cs = []
  | x :: r, cs => ∃ c1 c2, cs = c1 ++ c2 ∧ R x c1 ∧ ERl R r c2
theorem ERl.len {α : Type} {R : α → List Value → Prop} {s : Nat} (hR : ∀ x c, R x c → c.length = s) : ∀ {xs : List α} {cs : List Value}, ERl R xs cs → cs.length = xs.length * s
  | [], _, h => by cases h; simp
  | x :: r, _, h => by
    obtain ⟨c1, c2, rfl, h1, h2⟩ := h
    rw [List.length_append, hR x c1 h1, h2.len hR, List.length_cons, Nat.add_mul, Nat.one_mul, Nat.add_comm]
theorem ERl.all {α : Type} {R : α → List Value → Prop} {p : Value → Prop} (hR : ∀ x c, R x c → ∀ u ∈ c, p u) : ∀ {xs : List α} {cs : List Value}, ERl R xs cs → ∀ u ∈ cs, p u
  | [], _, h => by cases h; simp
  | x :: r, _, h => by
    obtain ⟨c1, c2, rfl, h1, h2⟩ := h
    intro u hu
    rcases List.mem_append.1 hu with h | h
    · exact hR x c1 h1 u h
    · exact h2.all hR u h
theorem ERl.imp {α : Type} {R R' : α → List Value → Prop} (hR : ∀ x c, R x c → R' x c) : ∀ {xs : List α} {cs : List Value}, ERl R xs cs → ERl R' xs cs
  | [], _, h => h
  | x :: r, _, h => by
    obtain ⟨c1, c2, h0, h1, h2⟩ := h
    exact ⟨c1, c2, h0, hR x c1 h1, h2.imp hR⟩
theorem ERl.rep {α : Type} {R : α → List Value → Prop} {x : α} {c : List Value} (h : R x c) : ∀ n : Nat, ERl R (List.replicate n x) (List.replicate n c).flatten
  | 0 => rfl
  | n + 1 => ⟨c, _, by rw [List.replicate_succ, List.flatten_cons], h, ERl.rep h n⟩
/-- Cells lie in a block from a place on. -/
def CellsAt (w : World) (b o : Nat) (cs : List Value) : Prop := ∀ j v, cs[j]? = some v → w.cell? ⟨b, o + j, none⟩ = some v
/-- A value of a kind, told by its cells; what it leads to lies in blocks of F. -/
def VR (w : World) (F : Nat → Prop) : (k : Ki) → k.den → List Value → Prop
  | .int ik, x, cs => cs = [.int ik x]
  | .bool, x, cs => cs = [.bool x]
  | .str, x, cs => cs = [.string x]
  | .unit, _, cs => cs = []
  | .list k, xs, cs => ∃ A c, cs = [.slice A (List.length xs) c] ∧ List.length xs ≤ c ∧ c ≤ maxLen ∧ ∀ i x, (xs : List k.den)[i]? = some x → ∃ b o ds, A = some ⟨b, o, none⟩ ∧ F b ∧ VR w F k x ds ∧ CellsAt w b (o + i * k.sz) ds
  | .pair a b, x, cs => ∃ c1 c2, cs = c1 ++ c2 ∧ VR w F a x.1 c1 ∧ VR w F b x.2 c2
  | .arr n k, xs, cs => List.length (xs : List k.den) = n ∧ ERl (fun x c => VR w F k x c) (xs : List k.den) cs
  | .ref k, x, cs => ((x : Option k.den) = none ∧ cs = [.pointer none]) ∨ ∃ y b o ds, (x : Option k.den) = some y ∧ cs = [.pointer (some ⟨b, o, none⟩)] ∧ F b ∧ VR w F k y ds ∧ CellsAt w b o ds
  | .nl k, x, cs => ((x : Option (List k.den)) = none ∧ cs = [.slice none 0 0]) ∨ ∃ xs ad c, (x : Option (List k.den)) = some xs ∧ cs = [.slice (some ad) (List.length xs) c] ∧ List.length xs ≤ c ∧ c ≤ maxLen ∧ ∀ i z, (xs : List k.den)[i]? = some z → ∃ b o ds, ad = ⟨b, o, none⟩ ∧ F b ∧ VR w F k z ds ∧ CellsAt w b (o + i * k.sz) ds
theorem VR.len {w : World} {F : Nat → Prop} : ∀ {k : Ki} {x : k.den} {cs : List Value}, VR w F k x cs → cs.length = k.sz
  | .int _, _, _, h => by cases h; rfl
  | .bool, _, _, h => by cases h; rfl
  | .str, _, _, h => by cases h; rfl
  | .unit, _, _, h => by cases h; rfl
  | .list _, _, _, h => by obtain ⟨_, _, rfl, _⟩ := h; rfl
  | .pair a b, _, _, h => by obtain ⟨c1, c2, rfl, h1, h2⟩ := h; rw [List.length_append, h1.len, h2.len]; rfl
  | .arr n k, _, _, h => by obtain ⟨h1, h2⟩ := h; have := h2.len (fun x c hc => VR.len hc); rw [h1] at this; exact this
  | .ref k, _, _, h => by rcases h with ⟨_, rfl⟩ | ⟨_, _, _, _, _, rfl, _⟩ <;> rfl
  | .nl k, _, _, h => by rcases h with ⟨_, rfl⟩ | ⟨_, _, _, _, rfl, _⟩ <;> rfl
theorem VR.one {w : World} {F : Nat → Prop} : ∀ {k : Ki} {x : k.den} {cs : List Value}, VR w F k x cs → ∀ u ∈ cs, u.oneCell' = true
  | .int _, _, _, h => by cases h; simp [Value.oneCell']
  | .bool, _, _, h => by cases h; simp [Value.oneCell']
  | .str, _, _, h => by cases h; simp [Value.oneCell']
  | .unit, _, _, h => by cases h; simp
  | .list _, _, _, h => by obtain ⟨_, _, rfl, _⟩ := h; simp [Value.oneCell']
  | .pair a b, _, _, h => by
    obtain ⟨c1, c2, rfl, h1, h2⟩ := h
    intro u hu
    rcases List.mem_append.1 hu with h | h
    · exact h1.one u h
    · exact h2.one u h
  | .arr n k, _, _, h => h.2.all (fun x c hc => VR.one hc)
  | .ref k, _, _, h => by rcases h with ⟨_, rfl⟩ | ⟨_, _, _, _, _, rfl, _⟩ <;> simp [Value.oneCell']
  | .nl k, _, _, h => by rcases h with ⟨_, rfl⟩ | ⟨_, _, _, _, rfl, _⟩ <;> simp [Value.oneCell']
theorem cell_of_heap {w w' : World} {b : Nat} (h : w'.heap[b]? = w.heap[b]?) (o : Nat) : w'.cell? ⟨b, o, none⟩ = w.cell? ⟨b, o, none⟩ := World.cell?_of_block (a := ⟨b, o, none⟩) h
theorem CellsAt.mono {w w' : World} {b o : Nat} {cs : List Value} (h : CellsAt w b o cs) (hw : w'.heap[b]? = w.heap[b]?) : CellsAt w' b o cs := fun j v hj => (cell_of_heap hw _).trans (h j v hj)
theorem VR.mono {w w' : World} {F F' : Nat → Prop} (hF : ∀ b, F b → F' b ∧ w'.heap[b]? = w.heap[b]?) : ∀ {k : Ki} {x : k.den} {cs : List Value}, VR w F k x cs → VR w' F' k x cs
  | .int _, _, _, h => h
  | .bool, _, _, h => h
  | .str, _, _, h => h
  | .unit, _, _, h => h
  | .list _, _, _, h => by
    obtain ⟨A, c, h1, h2, h2', h3⟩ := h
    refine ⟨A, c, h1, h2, h2', fun i x hx => ?_⟩
    obtain ⟨b, o, ds, ha, hb, hv, hc⟩ := h3 i x hx
    exact ⟨b, o, ds, ha, (hF b hb).1, hv.mono hF, hc.mono (hF b hb).2⟩
  | .pair a b, _, _, h => by
    obtain ⟨c1, c2, h0, h1, h2⟩ := h
    exact ⟨c1, c2, h0, h1.mono hF, h2.mono hF⟩
  | .arr n k, _, _, h => ⟨h.1, h.2.imp (fun x c hc => VR.mono hF hc)⟩
  | .ref k, _, _, h => by
    rcases h with h | ⟨y, b, o, ds, h1, h2, h3, h4, h5⟩
    · exact .inl h
    · exact .inr ⟨y, b, o, ds, h1, h2, (hF b h3).1, VR.mono hF h4, h5.mono (hF b h3).2⟩
  | .nl k, _, _, h => by
    rcases h with h | ⟨xs, ad, c, h1, h2, h3, h4, h5⟩
    · exact .inl h
    · refine .inr ⟨xs, ad, c, h1, h2, h3, h4, fun i x hx => ?_⟩
      obtain ⟨b, o, ds, ha, hb, hv, hc⟩ := h5 i x hx
      exact ⟨b, o, ds, ha, (hF b hb).1, hv.mono hF, hc.mono (hF b hb).2⟩
/-- A value in a temporary. -/
def VRv (w : World) (F : Nat → Prop) (k : Ki) (x : k.den) (v : Value) : Prop := if k.agg = true then ∃ cs : List Value, v = .agg cs.toArray ∧ VR w F k x cs else VR w F k x [v]
theorem VRv.mono {w w' : World} {F F' : Nat → Prop} (hF : ∀ b, F b → F' b ∧ w'.heap[b]? = w.heap[b]?) {k : Ki} {x : k.den} {v : Value} (h : VRv w F k x v) : VRv w' F' k x v := by
  unfold VRv at h ⊢
  split
  · rename_i hk; rw [if_pos hk] at h; obtain ⟨cs, h1, h2⟩ := h; exact ⟨cs, h1, h2.mono hF⟩
  · rename_i hk; rw [if_neg hk] at h; exact h.mono hF
theorem VR.sz1 {w : World} {F : Nat → Prop} {k : Ki} {x : k.den} {v : Value} (h : VRv w F k x v) : VR w F k x v.cells.toList := by
  unfold VRv at h
  split at h
  · obtain ⟨cs, rfl, h⟩ := h; simpa [Value.cells] using h
  · rename_i hk
    have : v.cells = #[v] := by
      cases k <;> simp [Ki.agg] at hk <;> simp only [VR] at h
      · cases h; rfl
      · cases h; rfl
      · cases h; rfl
      · obtain ⟨A, c, h, _⟩ := h; cases h; rfl
      · rcases h with ⟨_, h⟩ | ⟨_, _, _, _, _, h, _⟩ <;> cases h <;> rfl
      · rcases h with ⟨_, h⟩ | ⟨_, _, _, _, h, _⟩ <;> cases h <;> rfl
    rw [this]; exact h
theorem VRv.int {w : World} {F : Nat → Prop} {ik : IntKind} {n : Int} {v : Value} (h : VRv w F (.int ik) n v) : v = .int ik n := by simp [VRv, Ki.agg, VR] at h; exact h
theorem VRv.bool {w : World} {F : Nat → Prop} {n : Bool} {v : Value} (h : VRv w F .bool n v) : v = .bool n := by simp [VRv, Ki.agg, VR] at h; exact h
theorem VRv.str {w : World} {F : Nat → Prop} {n : ByteArray} {v : Value} (h : VRv w F .str n v) : v = .string n := by simp [VRv, Ki.agg, VR] at h; exact h
theorem VRv.of_int (w : World) (F : Nat → Prop) (ik : IntKind) (n : Int) : VRv w F (.int ik) n (.int ik n) := by simp [VRv, Ki.agg, VR]
theorem VRv.of_bool (w : World) (F : Nat → Prop) (n : Bool) : VRv w F .bool n (.bool n) := by simp [VRv, Ki.agg, VR]
theorem VRv.of_str (w : World) (F : Nat → Prop) (n : ByteArray) : VRv w F .str n (.string n) := by simp [VRv, Ki.agg, VR]
/-- A value made of cells. -/
def mkV (k : Ki) (cs : List Value) : Value := if k.agg = true then .agg cs.toArray else cs.headD undef
theorem VRv.of_cells {w : World} {F : Nat → Prop} {k : Ki} {x : k.den} {cs : List Value} (h : VR w F k x cs) : VRv w F k x (mkV k cs) := by
  unfold VRv mkV
  split
  · exact ⟨cs, rfl, h⟩
  · rename_i hk
    cases k <;> simp [Ki.agg] at hk <;> simp only [VR] at h ⊢
    · subst h; simp
    · subst h; simp
    · subst h; simp
    · obtain ⟨A, c, rfl, h⟩ := h; exact ⟨A, c, rfl, h⟩
    · rcases h with ⟨h1, rfl⟩ | ⟨y, b, o, ds, h1, rfl, h⟩
      · exact .inl ⟨h1, rfl⟩
      · exact .inr ⟨y, b, o, ds, h1, rfl, h⟩
    · rcases h with ⟨h1, rfl⟩ | ⟨y, ad, c, h1, rfl, h⟩
      · exact .inl ⟨h1, rfl⟩
      · exact .inr ⟨y, ad, c, h1, rfl, h⟩
theorem VR.zero (w : World) (F : Nat → Prop) : ∀ k : Ki, ∃ cs, VR w F k k.zero cs
  | .int _ => ⟨_, rfl⟩
  | .bool => ⟨_, rfl⟩
  | .str => ⟨_, rfl⟩
  | .unit => ⟨_, rfl⟩
  | .list k => ⟨[.slice none 0 0], none, 0, rfl, Nat.le_refl _, Nat.zero_le _, fun i x h => by simp [Ki.zero] at h⟩
  | .pair a b => by
    obtain ⟨c1, h1⟩ := VR.zero w F a
    obtain ⟨c2, h2⟩ := VR.zero w F b
    exact ⟨c1 ++ c2, c1, c2, rfl, h1, h2⟩
  | .arr n k => by
    obtain ⟨c, h⟩ := VR.zero w F k
    exact ⟨(List.replicate n c).flatten, by show List.length (List.replicate n k.zero) = n; simp, ERl.rep (R := fun x c => VR w F k x c) h n⟩
  | .ref _ => ⟨_, .inl ⟨rfl, rfl⟩⟩
  | .nl _ => ⟨_, .inl ⟨rfl, rfl⟩⟩
end Go.Proofs.YtlioalaehkohlaaDoor.Vm
