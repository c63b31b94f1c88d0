/- A small verified machine over the program's code: the kinds of its values, and how they lie in memory. Conditions: as each theorem states them. -/
import Derived.Test.YtdbaglogmdkbpaaDoorProg
import Derived.Laws.AppendOwn
import Derived.Below
import Derived.Calls
import Derived.Tactics
import Derived.Orders
namespace Go.Proofs.YtdbaglogmdkbpaaDoor.Vm
open Go Go.RowKit
set_option linter.unusedVariables false
set_option linter.unusedSimpArgs false
inductive Ki where
  | int (k : IntKind) | bool | str | unit | list (k : Ki) | pair (a b : Ki)
  deriving DecidableEq
@[reducible] def Ki.den : Ki → Type
  | .int _ => Int
  | .bool => Bool
  | .str => ByteArray
  | .unit => Unit
  | .list k => List k.den
  | .pair a b => a.den × b.den
def Ki.sz : Ki → Nat
  | .int _ => 1
  | .bool => 1
  | .str => 1
  | .unit => 0
  | .list _ => 1
  | .pair a b => a.sz + b.sz
def Ki.agg : Ki → Bool
  | .unit => true
  | .pair _ _ => true
  | _ => false
def Ki.zero : (k : Ki) → k.den
  | .int _ => (0 : Int)
  | .bool => false
  | .str => ByteArray.empty
  | .unit => ()
  | .list k => ([] : List k.den)
  | .pair a b => (a.zero, b.zero)
/-- Cells lie in a block from a place on. -/
def CellsAt (w : World) (b o : Nat) (cs : List Value) : Prop := ∀ j v, cs[j]? = some v → w.cell? ⟨b, o + j, none⟩ = some v
/-- A value of a kind, told by its cells; what it leads to lies in blocks of F. -/
def VR (w : World) (F : Nat → Prop) : (k : Ki) → k.den → List Value → Prop
  | .int ik, x, cs => cs = [.int ik x]
  | .bool, x, cs => cs = [.bool x]
  | .str, x, cs => cs = [.string x]
  | .unit, _, cs => cs = []
  | .list k, xs, cs => ∃ A c, cs = [.slice A (List.length xs) c] ∧ List.length xs ≤ c ∧ c ≤ maxLen ∧ ∀ i x, (xs : List k.den)[i]? = some x → ∃ b o ds, A = some ⟨b, o, none⟩ ∧ F b ∧ VR w F k x ds ∧ CellsAt w b (o + i * k.sz) ds
  | .pair a b, x, cs => ∃ c1 c2, cs = c1 ++ c2 ∧ VR w F a x.1 c1 ∧ VR w F b x.2 c2
theorem VR.len {w : World} {F : Nat → Prop} : ∀ {k : Ki} {x : k.den} {cs : List Value}, VR w F k x cs → cs.length = k.sz
  | .int _, _, _, h => by cases h; rfl
  | .bool, _, _, h => by cases h; rfl
  | .str, _, _, h => by cases h; rfl
  | .unit, _, _, h => by cases h; rfl
  | .list _, _, _, h => by obtain ⟨_, _, rfl, _⟩ := h; rfl
  | .pair a b, _, _, h => by obtain ⟨c1, c2, rfl, h1, h2⟩ := h; rw [List.length_append, h1.len, h2.len]; rfl
theorem VR.one {w : World} {F : Nat → Prop} : ∀ {k : Ki} {x : k.den} {cs : List Value}, VR w F k x cs → ∀ u ∈ cs, u.oneCell' = true
  | .int _, _, _, h => by cases h; simp [Value.oneCell']
  | .bool, _, _, h => by cases h; simp [Value.oneCell']
  | .str, _, _, h => by cases h; simp [Value.oneCell']
  | .unit, _, _, h => by cases h; simp
  | .list _, _, _, h => by obtain ⟨_, _, rfl, _⟩ := h; simp [Value.oneCell']
  | .pair a b, _, _, h => by
    obtain ⟨c1, c2, rfl, h1, h2⟩ := h
    intro u hu
    rcases List.mem_append.1 hu with h | h
    · exact h1.one u h
    · exact h2.one u h
theorem cell_of_heap {w w' : World} {b : Nat} (h : w'.heap[b]? = w.heap[b]?) (o : Nat) : w'.cell? ⟨b, o, none⟩ = w.cell? ⟨b, o, none⟩ := World.cell?_of_block (a := ⟨b, o, none⟩) h
theorem CellsAt.mono {w w' : World} {b o : Nat} {cs : List Value} (h : CellsAt w b o cs) (hw : w'.heap[b]? = w.heap[b]?) : CellsAt w' b o cs := fun j v hj => (cell_of_heap hw _).trans (h j v hj)
theorem VR.mono {w w' : World} {F F' : Nat → Prop} (hF : ∀ b, F b → F' b ∧ w'.heap[b]? = w.heap[b]?) : ∀ {k : Ki} {x : k.den} {cs : List Value}, VR w F k x cs → VR w' F' k x cs
  | .int _, _, _, h => h
  | .bool, _, _, h => h
  | .str, _, _, h => h
  | .unit, _, _, h => h
  | .list _, _, _, h => by
    obtain ⟨A, c, h1, h2, h2', h3⟩ := h
    refine ⟨A, c, h1, h2, h2', fun i x hx => ?_⟩
    obtain ⟨b, o, ds, ha, hb, hv, hc⟩ := h3 i x hx
    exact ⟨b, o, ds, ha, (hF b hb).1, hv.mono hF, hc.mono (hF b hb).2⟩
  | .pair a b, _, _, h => by
    obtain ⟨c1, c2, h0, h1, h2⟩ := h
    exact ⟨c1, c2, h0, h1.mono hF, h2.mono hF⟩
/-- A value in a temporary. -/
def VRv (w : World) (F : Nat → Prop) (k : Ki) (x : k.den) (v : Value) : Prop := if k.agg = true then ∃ cs : List Value, v = .agg cs.toArray ∧ VR w F k x cs else VR w F k x [v]
theorem VRv.mono {w w' : World} {F F' : Nat → Prop} (hF : ∀ b, F b → F' b ∧ w'.heap[b]? = w.heap[b]?) {k : Ki} {x : k.den} {v : Value} (h : VRv w F k x v) : VRv w' F' k x v := by
  unfold VRv at h ⊢
  split
  · rename_i hk; rw [if_pos hk] at h; obtain ⟨cs, h1, h2⟩ := h; exact ⟨cs, h1, h2.mono hF⟩
  · rename_i hk; rw [if_neg hk] at h; exact h.mono hF
theorem VR.sz1 {w : World} {F : Nat → Prop} {k : Ki} {x : k.den} {v : Value} (h : VRv w F k x v) : VR w F k x v.cells.toList := by
  unfold VRv at h
  split at h
  · obtain ⟨cs, rfl, h⟩ := h; simpa [Value.cells] using h
  · rename_i hk
    have : v.cells = #[v] := by
      cases k <;> simp [Ki.agg] at hk <;> simp only [VR] at h
      · cases h; rfl
      · cases h; rfl
      · cases h; rfl
      · obtain ⟨A, c, h, _⟩ := h; cases h; rfl
    rw [this]; exact h
theorem VRv.int {w : World} {F : Nat → Prop} {ik : IntKind} {n : Int} {v : Value} (h : VRv w F (.int ik) n v) : v = .int ik n := by simp [VRv, Ki.agg, VR] at h; exact h
theorem VRv.bool {w : World} {F : Nat → Prop} {n : Bool} {v : Value} (h : VRv w F .bool n v) : v = .bool n := by simp [VRv, Ki.agg, VR] at h; exact h
theorem VRv.str {w : World} {F : Nat → Prop} {n : ByteArray} {v : Value} (h : VRv w F .str n v) : v = .string n := by simp [VRv, Ki.agg, VR] at h; exact h
theorem VRv.of_int (w : World) (F : Nat → Prop) (ik : IntKind) (n : Int) : VRv w F (.int ik) n (.int ik n) := by simp [VRv, Ki.agg, VR]
theorem VRv.of_bool (w : World) (F : Nat → Prop) (n : Bool) : VRv w F .bool n (.bool n) := by simp [VRv, Ki.agg, VR]
theorem VRv.of_str (w : World) (F : Nat → Prop) (n : ByteArray) : VRv w F .str n (.string n) := by simp [VRv, Ki.agg, VR]
/-- A value made of cells. -/
def mkV (k : Ki) (cs : List Value) : Value := if k.agg = true then .agg cs.toArray else cs.headD undef
theorem VRv.of_cells {w : World} {F : Nat → Prop} {k : Ki} {x : k.den} {cs : List Value} (h : VR w F k x cs) : VRv w F k x (mkV k cs) := by
  unfold VRv mkV
  split
  · exact ⟨cs, rfl, h⟩
  · rename_i hk
    cases k <;> simp [Ki.agg] at hk <;> simp only [VR] at h ⊢
    · subst h; simp
    · subst h; simp
    · subst h; simp
    · obtain ⟨A, c, rfl, h⟩ := h; exact ⟨A, c, rfl, h⟩
theorem VR.zero (w : World) (F : Nat → Prop) : ∀ k : Ki, ∃ cs, VR w F k k.zero cs
  | .int _ => ⟨_, rfl⟩
  | .bool => ⟨_, rfl⟩
  | .str => ⟨_, rfl⟩
  | .unit => ⟨_, rfl⟩
  | .list k => ⟨[.slice none 0 0], none, 0, rfl, Nat.le_refl _, Nat.zero_le _, fun i x h => by simp [Ki.zero] at h⟩
  | .pair a b => by
    obtain ⟨c1, h1⟩ := VR.zero w F a
    obtain ⟨c2, h2⟩ := VR.zero w F b
    exact ⟨c1 ++ c2, c1, c2, rfl, h1, h2⟩
end Go.Proofs.YtdbaglogmdkbpaaDoor.Vm
