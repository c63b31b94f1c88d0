/- What the statements of the layer of polynomials share: bytes that are handed in, and the examples. No conditions. -/
import Derived.Test.YticcahcfpjghdaaP3
import Derived.Test.YticcahcfpjghdaaPx4
namespace Go.Proofs.Yticcahcfpjghdaa.Al
open Go Go.RowKit Go.Proofs.YticcahcfpjghdaaW.PrintWords Go.Proofs.YticcahcfpjghdaaW.PrintMore Go.Proofs.Yticcahcfpjghdaa.P
set_option linter.unusedVariables false

theorem wf_u8 {x : Int} (h : (Lit.int .u8 x).wf = true) : 0 ≤ x ∧ x < 256 := by
  simp [Lit.wf, IntKind.min, IntKind.max, IntKind.bits, IntKind.signed] at h
  omega
theorem bytes_in {l : List Int} (h : ∀ x ∈ l, (Lit.int .u8 x).wf = true) : ∃ p, l = bs p := of_bytes l (fun x hx => wf_u8 (h x hx))
theorem byte_in {x : Int} (h : (Lit.int .u8 x).wf = true) : ∃ a : G, x = a.i := ⟨G.of x, (i_of (wf_u8 h).1 (wf_u8 h).2).symm⟩
theorem alive_ev : Ev (fun k => footlockerlaw02_alive.f k) true :=
  Ev.of (fun k => footlockerlaw02_alive.mono k) (k := 60) (by decide +kernel)
theorem same_true {a b : List Int} (h : a = b) (ha : a.length < 1000000000000) : Ev (fun k => footlockerref01_Same.f k a b) true := by
  have := same_ev a b ha
  rwa [decide_eq_true h] at this
end Go.Proofs.Yticcahcfpjghdaa.Al
