/- What the listed variables read as, for the machine. Conditions: as each theorem states them. -/
import Derived.Test.YtlioalaehkohlaaDoorVO
import Derived.ProofKit
import Derived.OpenShut
import Derived.LaidMore
import Derived.FnData
namespace Go.Proofs.YtlioalaehkohlaaDoor.Vm
open Go Go.RowKit Go.ChangeShapes Go.WideShapes
set_option linter.unusedVariables false
set_option linter.unusedSimpArgs false
section
variable {H : Type} {enc : TypeId × Value → H} {P : Program} {W : World}
theorem tab_ints {ik : IntKind} {sp : Nat → Bool} {held : Bool} {n : String} {g len t e : Nat} {l : List Int} {g' t' fuel : Nat} {cs : Array Value} {x : DataW H} {p : List MemPlace}
    (hg : P.globalNamed n = some g) (ht : (P.globals[g]?).map (·.type) = some t) (hu : P.underlying t = some (.array len e)) (he : P.underlying e = some (.int ik)) (hc : P.cellsOf e = 1)
    (hl : l.length = len) (h0 : 0 < len) (hx : x = .agg (l.map fun n => .lit (.int ik n)))
    (hg' : P.globalNamed n = some g') (ht' : (P.globals[g']?).map (·.type) = some t') (hv : W.var? P n = some cs) (hd : DataW.trod enc P W 0 sp held fuel t' cs.toList = some (x, p)) :
    g < W.heap.size ∧ ∀ i y, (l : List (Ki.int ik).den)[i]? = some y → ∃ ds, VR W (fun b => b < W.heap.size) (.int ik) y ds ∧ CellsAt W g (i * (Ki.int ik).sz) ds := by
  obtain rfl := Option.some.inj (hg.symm.trans hg')
  obtain rfl := Option.some.inj (ht.symm.trans ht')
  subst hx
  obtain ⟨xs, m, _, ex, _, hxl, hel⟩ := DataW.trod_array hu hd
  have e3 : (xs.map (·.1)) = l.map (fun n => (DataW.lit (.int ik n) : DataW H)) := (DataW.agg.inj (Prod.mk.inj ex).1).symm
  have key : ∀ (j : Nat) z, l[j]? = some z → cs[j]? = some (Value.int ik z) := by
    intro j q hq
    have hjl : j < l.length := (List.getElem?_eq_some_iff.1 hq).1
    have hE := hel j (by omega)
    rw [hc, Nat.mul_one, List.getElem?_eq_getElem (by omega : j < xs.length)] at hE
    obtain ⟨z, e1, e2, _⟩ := DataW.trod_int he hE
    have e4 : (xs.map (·.1))[j]? = (l.map fun n => (DataW.lit (.int ik n) : DataW H))[j]? := by rw [e3]
    rw [List.getElem?_map, List.getElem?_map, List.getElem?_eq_getElem (by omega : j < xs.length), hq, e2] at e4
    have hz : z = q := by simpa using e4
    subst hz
    have h0 : ((cs.toList.drop j).take 1)[0]? = some (Value.int ik z) := by rw [e1]; rfl
    simpa using h0
  refine ⟨?_, fun i y hy => ⟨[.int ik y], rfl, fun j v hj => ?_⟩⟩
  · cases hl0 : l with
    | nil => rw [hl0] at hl; simp at hl; omega
    | cons a r => exact (cell_lt ((World.var?_cell hg hv 0).trans (key 0 a (by rw [hl0]; rfl)))).1
  · have hj0 : j = 0 := by have := (List.getElem?_eq_some_iff.1 hj).1; simpa using this
    subst hj0
    have hvv : v = .int ik y := by simpa using hj.symm
    subst hvv
    have := (World.var?_cell hg hv i).trans (key i y hy)
    rw [show i * (Ki.int ik).sz + 0 = i by show i * 1 + 0 = i; omega]
    exact this
theorem struct_two {ik : IntKind} {t : TypeId} {f0 f1 : Field} {sp : Nat → Bool} {held : Bool} {fuel : Nat} {cs : List Value} {x : DataW H × List MemPlace} (ht : P.underlying t = some (.struct #[f0, f1])) (o0 : f0.offset = 0) (o1 : f1.offset = 1) (hc : P.cellsOf t = 2) (c0 : P.cellsOf f0.type = 1) (c1 : P.cellsOf f1.type = 1) (u0 : P.underlying f0.type = some (.int ik)) (u1 : P.underlying f1.type = some (.int ik))
    (h : DataW.trod enc P W 0 sp held fuel t cs = some x) : ∃ a b, cs = [.int ik a, .int ik b] ∧ x.1 = .agg [.lit (.int ik a), .lit (.int ik b)] := by
  cases fuel with
  | zero => simp [DataW.trod] at h
  | succ m =>
    unfold DataW.trod at h
    rw [ht] at h
    dsimp only at h
    by_cases hl : cs.length = P.cellsOf t
    · rw [if_pos hl] at h
      obtain ⟨ys, hy, hxe⟩ := Option.map_eq_some_iff.1 h
      obtain ⟨h1, h2⟩ := mapM_get hy
      have hl2 : ys.length = 2 := by rw [h1]; rfl
      match ys, hl2 with
      | [y0, y1], _ =>
      have g0 := h2 0 f0 rfl
      have g1 := h2 1 f1 rfl
      rw [o0, c0] at g0
      rw [o1, c1] at g1
      obtain ⟨a, e1, e2, _⟩ := DataW.trod_int u0 (g0 : DataW.trod enc P W 0 sp held m f0.type ((cs.drop 0).take 1) = some y0)
      obtain ⟨b, e3, e4, _⟩ := DataW.trod_int u1 (g1 : DataW.trod enc P W 0 sp held m f1.type ((cs.drop 1).take 1) = some y1)
      rw [hc] at hl
      match cs, hl with
      | [v0, v1], _ =>
      refine ⟨a, b, ?_, ?_⟩
      · have q1 : [v0] = [Value.int ik a] := e1
        have q2 : [v1] = [Value.int ik b] := e3
        cases q1; cases q2; rfl
      · rw [← hxe, e2, e4]; rfl
    · rw [if_neg hl] at h
      cases h
theorem tab_pairs {ik : IntKind} {sp : Nat → Bool} {held : Bool} {n : String} {g len t e : Nat} {f0 f1 : Field} {l : List (Int × Int × Unit)} {g' t' fuel : Nat} {cs : Array Value} {x : DataW H} {p : List MemPlace}
    (hg : P.globalNamed n = some g) (ht : (P.globals[g]?).map (·.type) = some t) (hu : P.underlying t = some (.array len e)) (he : P.underlying e = some (.struct #[f0, f1])) (hc : P.cellsOf e = 2)
    (o0 : f0.offset = 0) (o1 : f1.offset = 1) (c0 : P.cellsOf f0.type = 1) (c1 : P.cellsOf f1.type = 1) (u0 : P.underlying f0.type = some (.int ik)) (u1 : P.underlying f1.type = some (.int ik))
    (hl : l.length = len) (h0 : 0 < len) (hx : x = .agg (l.map fun n => .agg [.lit (.int ik n.1), .lit (.int ik n.2.1)]))
    (hg' : P.globalNamed n = some g') (ht' : (P.globals[g']?).map (·.type) = some t') (hv : W.var? P n = some cs) (hd : DataW.trod enc P W 0 sp held fuel t' cs.toList = some (x, p)) :
    g < W.heap.size ∧ ∀ i y, (l : List (Ki.pair (.int ik) (.pair (.int ik) .unit)).den)[i]? = some y → ∃ ds, VR W (fun b => b < W.heap.size) (.pair (.int ik) (.pair (.int ik) .unit)) y ds ∧ CellsAt W g (i * (Ki.pair (.int ik) (.pair (.int ik) .unit)).sz) ds := by
  obtain rfl := Option.some.inj (hg.symm.trans hg')
  obtain rfl := Option.some.inj (ht.symm.trans ht')
  subst hx
  obtain ⟨xs, m, _, ex, _, hxl, hel⟩ := DataW.trod_array hu hd
  have e3 : (xs.map (·.1)) = l.map (fun n => (DataW.agg [.lit (.int ik n.1), .lit (.int ik n.2.1)] : DataW H)) := (DataW.agg.inj (Prod.mk.inj ex).1).symm
  have key : ∀ (j : Nat) z, l[j]? = some z → cs[j * 2]? = some (Value.int ik z.1) ∧ cs[j * 2 + 1]? = some (Value.int ik z.2.1) := by
    intro j q hq
    have hjl : j < l.length := (List.getElem?_eq_some_iff.1 hq).1
    have hE := hel j (by omega)
    rw [hc, List.getElem?_eq_getElem (by omega : j < xs.length)] at hE
    obtain ⟨a, b, e1, e2⟩ := struct_two he o0 o1 hc c0 c1 u0 u1 hE
    have e4 : (xs.map (·.1))[j]? = (l.map fun n => (DataW.agg [.lit (.int ik n.1), .lit (.int ik n.2.1)] : DataW H))[j]? := by rw [e3]
    rw [List.getElem?_map, List.getElem?_map, List.getElem?_eq_getElem (by omega : j < xs.length), hq, Option.map_some, e2] at e4
    have hz : a = q.1 ∧ b = q.2.1 := by simpa using e4
    obtain ⟨rfl, rfl⟩ := hz
    have h0 : ((cs.toList.drop (j * 2)).take 2)[0]? = some (Value.int ik q.1) := by rw [e1]; rfl
    have h1 : ((cs.toList.drop (j * 2)).take 2)[1]? = some (Value.int ik q.2.1) := by rw [e1]; rfl
    rw [List.getElem?_take_of_lt (by decide), List.getElem?_drop] at h0 h1
    exact ⟨by simpa using h0, by simpa using h1⟩
  refine ⟨?_, fun i y hy => ⟨[.int ik y.1, .int ik y.2.1], ⟨[.int ik y.1], [.int ik y.2.1], rfl, rfl, [.int ik y.2.1], [], rfl, rfl, rfl⟩, fun j v hj => ?_⟩⟩
  · cases hl0 : l with
    | nil => rw [hl0] at hl; simp at hl; omega
    | cons a r => exact (cell_lt ((World.var?_cell hg hv 0).trans (key 0 a (by rw [hl0]; rfl)).1)).1
  · obtain ⟨k1, k2⟩ := key i y hy
    rw [show i * (Ki.pair (.int ik) (.pair (.int ik) .unit)).sz = i * 2 from rfl]
    match j, hj with
    | 0, hj =>
      have hvv : v = .int ik y.1 := by simpa using hj.symm
      subst hvv
      exact (World.var?_cell hg hv (i * 2)).trans k1
    | 1, hj =>
      have hvv : v = .int ik y.2.1 := by simpa using hj.symm
      subst hvv
      exact (World.var?_cell hg hv (i * 2 + 1)).trans k2
    | j + 2, hj => simp at hj
end
end Go.Proofs.YtlioalaehkohlaaDoor.Vm
