/- What the rows' tables hold, as the walks want it. Written by a program. -/
import Derived.Test.YtabaodikcgaliaaDoorRows
import Derived.Test.YtabaodikcgaliaaDoorPx1
import Derived.ProofKit
import Derived.OpenShut
import Derived.LaidMore
import Derived.Lay
import Derived.SevenTiedAt
import Derived.Stop.Joined
namespace Go.Proofs.YtabaodikcgaliaaDoor.Tb
open Go Go.ChangeShapes Go.WideShapes Go.ChangeAt Go.RowKit Go.Proofs.YtabaodikcgaliaaDoorW.PrintWords
set_option linter.unusedVariables false
set_option maxRecDepth 100000
theorem tab_of {H : Type} {enc : TypeId × Value → H} {sp : Nat → Bool} {held : Bool} {n : String} {g len t e : Nat} {l : List Int} {W : World} {g' t' fuel : Nat} {cs : Array Value} {x : DataW H} {p : List MemPlace}
    (hg : Tryd.prog.globalNamed n = some g) (ht : (Tryd.prog.globals[g]?).map (·.type) = some t) (hu : Tryd.prog.underlying t = some (.array len e)) (he : Tryd.prog.underlying e = some (.int .i64)) (hc : Tryd.prog.cellsOf e = 1)
    (hl : l.length = len) (hm : len ≤ 9223372036854775807) (hx : x = .agg (l.map fun n => .lit (.int .i64 n)))
    (hg' : Tryd.prog.globalNamed n = some g') (ht' : (Tryd.prog.globals[g']?).map (·.type) = some t') (hv : W.var? Tryd.prog n = some cs) (hd : DataW.trod enc Tryd.prog W 0 sp held fuel t' cs.toList = some (x, p)) :
    Kd.C (Kd.int .i64) W (some ⟨g, 0, none⟩) len l := by
  obtain rfl := Option.some.inj (hg.symm.trans hg')
  obtain rfl := Option.some.inj (ht.symm.trans ht')
  subst hx
  obtain ⟨xs, m, _, ex, _, hxl, hel⟩ := DataW.trod_array hu hd
  have e3 : (xs.map (·.1)) = l.map fun n => .lit (.int .i64 n) := (DataW.agg.inj (Prod.mk.inj ex).1).symm
  refine ⟨hl, hm, fun _ => ⟨_, rfl, fun j q hq => ⟨[.int .i64 q], rfl, rfl, fun i u hi => ?_⟩⟩⟩
  have hjl : j < l.length := (List.getElem?_eq_some_iff.1 hq).1
  have hE := hel j (by omega)
  rw [hc, Nat.mul_one, List.getElem?_eq_getElem (by omega : j < xs.length)] at hE
  obtain ⟨z, e1, e2, _⟩ := DataW.trod_int he hE
  have e4 : (xs.map (·.1))[j]? = (l.map fun n => (DataW.lit (.int .i64 n) : DataW H))[j]? := by rw [e3]
  rw [List.getElem?_map, List.getElem?_map, List.getElem?_eq_getElem (by omega : j < xs.length), hq, e2] at e4
  have hz : z = q := by simpa using e4
  subst hz
  have h0 : cs.toList[j]? = some (.int .i64 z) := by
    have h0 : ((cs.toList.drop j).take 1)[0]? = some (.int .i64 z) := by rw [e1]; rfl
    simpa using h0
  have hi0 : i = 0 := by
    have := (List.getElem?_eq_some_iff.1 hi).1
    simpa using this
  subst hi0
  have hu' : u = .int .i64 z := by simpa using hi.symm
  subst hu'
  have ea : (⟨g, 0, none⟩ : Addr).add (j * (Kd.int IntKind.i64).sz + 0) = ⟨g, j, none⟩ := by
    rw [show (j * (Kd.int IntKind.i64).sz + 0) = j from by show j * 1 + 0 = j; omega, Go.Proofs.YtabaodikcgaliaaDoorW.PrintWords.add_plain]
  rw [ea, World.var?_cell hg hv j]
  simpa using h0
theorem laid {W : World} (h : laidMetH Tryd.prog [("footlocker/symbol.lengths", Rows.laid_footlocker_symbol_lengths), ("footlocker/symbol.lengthBits", Rows.laid_footlocker_symbol_lengthBits), ("footlocker/symbol.dists", Rows.laid_footlocker_symbol_dists), ("footlocker/symbol.distBits", Rows.laid_footlocker_symbol_distBits), ("footlocker/symbol.order", Rows.laid_footlocker_symbol_order)] W) : P.Laid W := by
  rw [MakeChecks.laidMetH_plain _ _ _ (by kernel_rfl)] at h
  obtain ⟨ps, r, _, _⟩ := h
  obtain ⟨g0, t0, c0, f0, p0, q0, hg0, ht0, hv0, hd0, r0, _⟩ := r
  obtain ⟨g1, t1, c1, f1, p1, q1, hg1, ht1, hv1, hd1, r1, _⟩ := r0
  obtain ⟨g2, t2, c2, f2, p2, q2, hg2, ht2, hv2, hd2, r2, _⟩ := r1
  obtain ⟨g3, t3, c3, f3, p3, q3, hg3, ht3, hv3, hd3, r3, _⟩ := r2
  obtain ⟨g4, t4, c4, f4, p4, q4, hg4, ht4, hv4, hd4, r4, _⟩ := r3
  have k_len : Kd.C (Kd.int .i64) W (some ⟨0, 0, none⟩) 29 P.symLen := tab_of (g := 0) (t := 33) (e := 3) (l := P.symLen) (by kernel_rfl) (by kernel_rfl) Tryd.underlying33 Tryd.underlying3 (by kernel_rfl) (by decide) (by decide) (by rfl) hg0 ht0 hv0 hd0
  have k_lenBits : Kd.C (Kd.int .i64) W (some ⟨1, 0, none⟩) 29 P.symLenBits := tab_of (g := 1) (t := 33) (e := 3) (l := P.symLenBits) (by kernel_rfl) (by kernel_rfl) Tryd.underlying33 Tryd.underlying3 (by kernel_rfl) (by decide) (by decide) (by rfl) hg1 ht1 hv1 hd1
  have k_dist : Kd.C (Kd.int .i64) W (some ⟨2, 0, none⟩) 30 P.symDist := tab_of (g := 2) (t := 34) (e := 3) (l := P.symDist) (by kernel_rfl) (by kernel_rfl) Tryd.underlying34 Tryd.underlying3 (by kernel_rfl) (by decide) (by decide) (by rfl) hg2 ht2 hv2 hd2
  have k_distBits : Kd.C (Kd.int .i64) W (some ⟨3, 0, none⟩) 30 P.symDistBits := tab_of (g := 3) (t := 34) (e := 3) (l := P.symDistBits) (by kernel_rfl) (by kernel_rfl) Tryd.underlying34 Tryd.underlying3 (by kernel_rfl) (by decide) (by decide) (by rfl) hg3 ht3 hv3 hd3
  have k_order : Kd.C (Kd.int .i64) W (some ⟨4, 0, none⟩) 19 P.symOrder := tab_of (g := 4) (t := 37) (e := 3) (l := P.symOrder) (by kernel_rfl) (by kernel_rfl) Tryd.underlying37 Tryd.underlying3 (by kernel_rfl) (by decide) (by decide) (by rfl) hg4 ht4 hv4 hd4
  exact ⟨k_len, k_lenBits, k_dist, k_distBits, k_order⟩
end Go.Proofs.YtabaodikcgaliaaDoor.Tb
