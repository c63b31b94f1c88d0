/- Rows whose elements are only read: an element is cut at its beginning. Conditions: as each theorem states them. -/
import Derived.Test.YtanknpdibjfmlaaM3
import Derived.Test.YtanknpdibjfmlaaWN
import Derived.Test.YtanknpdibjfmlaaWNEv
namespace Go.Proofs.Ytanknpdibjfmlaa.Mm
open Go Go.RowKit Go.Proofs.YtanknpdibjfmlaaW.PrintWords
set_option linter.unusedVariables false
set_option linter.unusedSimpArgs false
section
variable {α : Type} {d : Kd α} {e e0 base g n cap : Nat} {ok : Nat → Prop} {W : World} {xs : List (List α)}
theorem N_cut (h : Kd.N (Kd.slice e0 d) e W base ok (.slice (some ⟨g, 0, none⟩) n cap) xs) (i : Nat) (hi : i < n) {ad : Addr} {c : Nat} (hu : W.cell? ⟨g, i, none⟩ = some (.slice (some ad) (xs.getD i []).length c)) (m : Nat) (hm : m < (xs.getD i []).length) :
    Kd.N (Kd.slice e0 d) e (W.setCell ⟨g, i, none⟩ (.slice (some (ad.add (m * d.sz))) ((xs.getD i []).length - m) (c - m))) base ok (.slice (some ⟨g, 0, none⟩) n cap) (xs.set i ((xs.getD i []).drop m)) ∧
      W.grownBy (W.setCell ⟨g, i, none⟩ (.slice (some (ad.add (m * d.sz))) ((xs.getD i []).length - m) (c - m))) (some g) := by
  obtain ⟨cs, hcl, hF, hcc, _⟩ := Kd.N_elem h ([] : List α) (i : Int) (by omega) (by omega)
  obtain ⟨A, c', rfl, hl, hf⟩ := Kd.FK_slice_open hF
  have hv := hcc 0 _ rfl
  simp only [Int.toNat_natCast, Nat.add_zero, show (Kd.slice e0 d).sz = 1 from rfl, Nat.mul_one] at hv hl hf
  have hv' := Option.some.inj (hv.symm.trans hu)
  injection hv' with h1 h2 h3
  subst h1; subst h3
  have hcut := Kd.F_cut (c := c') hf (m := m) (by omega) hl
  rw [if_neg (by omega)] at hcut
  have hM := Kd.FK_slice_mk (e := e0) (c := c' - m) (by rw [List.length_drop]; omega) hcut
  have := Kd.N_seg h (i : Int) (by omega) (by omega) (seg := [.slice (some (ad.add (m * d.sz))) ((xs.getD i []).length - m) (c' - m)]) (j := 0) (x' := (xs.getD i []).drop m) (by exact hcl) hcc (by show 0 + 1 ≤ 1; omega)
    (by
      rw [List.length_drop] at hM
      exact hM)
    (fun k hk => hk)
  simpa [World.setCells, show (Kd.slice e0 d).sz = 1 from rfl] using this
end
end Go.Proofs.Ytanknpdibjfmlaa.Mm
