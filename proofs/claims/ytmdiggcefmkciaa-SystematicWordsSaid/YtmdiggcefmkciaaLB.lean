/- What statements share: bytes that are handed in, masks, and rows that are the same. Conditions: as each theorem states them. -/
import Derived.Test.YtmdiggcefmkciaaP2
import Derived.Test.YtmdiggcefmkciaaPx5
namespace Go.Proofs.Ytmdiggcefmkciaa.Al
open Go Go.RowKit Go.Proofs.YtmdiggcefmkciaaW.PrintWords Go.Proofs.YtmdiggcefmkciaaW.PrintMore Go.Proofs.Ytmdiggcefmkciaa.P
set_option linter.unusedVariables false
set_option linter.unusedSimpArgs false

theorem wf_u8 {x : Int} (h : (Lit.int .u8 x).wf = true) : 0 ≤ x ∧ x < 256 := by
  simp [Lit.wf, IntKind.min, IntKind.max, IntKind.bits, IntKind.signed] at h
  omega
theorem wf_i64 {x : Int} (h : (Lit.int .i64 x).wf = true) : -9223372036854775808 ≤ x ∧ x ≤ 9223372036854775807 := by
  simp [Lit.wf, IntKind.min, IntKind.max, IntKind.bits, IntKind.signed] at h
  omega
theorem bytes_in {l : List Int} (h : ∀ x ∈ l, (Lit.int .u8 x).wf = true) : ∃ p, l = bs p := of_bytes l (fun x hx => wf_u8 (h x hx))
theorem byte_in {x : Int} (h : (Lit.int .u8 x).wf = true) : ∃ a : G, x = a.i := ⟨G.of x, (i_of (wf_u8 h).1 (wf_u8 h).2).symm⟩
theorem same_true {a b : List Int} (h : a = b) (ha : a.length < 1000000000000) : Ev (fun k => footlockerref01_Same.f k a b) true := by
  have := same_ev a b ha
  rwa [decide_eq_true h] at this
theorem and_le (x : Int) (m : Nat) (hm : m < 1000000) : ∃ c : Nat, c ≤ m ∧ Go.bits .and .i64 x (m : Int) = (c : Int) := by
  have hmm : (BitVec.ofInt 64 (m : Int)).toNat = m := by
    rw [BitVec.ofInt_natCast, BitVec.toNat_ofNat]
    omega
  have h : (BitVec.ofInt 64 x &&& BitVec.ofInt 64 (m : Int)).toNat ≤ m := by
    rw [BitVec.toNat_and, hmm]
    exact Nat.and_le_right
  refine ⟨(BitVec.ofInt 64 x &&& BitVec.ofInt 64 (m : Int)).toNat, h, ?_⟩
  show IntKind.i64.wrap _ = _
  rw [IntKind.wrap_i64]
  show (((BitVec.ofInt 64 x &&& BitVec.ofInt 64 (m : Int)).toNat : Int) + _) % _ - _ = _
  omega
end Go.Proofs.Ytmdiggcefmkciaa.Al
