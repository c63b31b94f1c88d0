/- How slices.Chunk over a row of bytes goes on. Conditions: as each theorem states them. -/
import Derived.RangeFuncNested
import Derived.RangeFuncBound
import Derived.RangeFuncCalls
import Derived.RangeFuncLeaves
import Derived.RangeFuncBox
import Derived.WalkKit
import Derived.OwnWalkIn
import Derived.TacticsInMore
import Derived.LoopNIn
import Derived.LoopIn
import Derived.BigRegionIn
import Derived.Shelf.Abstract
import Derived.Shelf.RegionOpen
import Derived.Test.YtlioalaehkohlaaDoorProg
namespace Go.Proofs.YtlioalaehkohlaaDoor.Ck
set_option linter.unusedVariables false
set_option linter.unusedSimpArgs false
open Go Go.RowKit Go.Proofs
attribute [local go_sem] Oper.semAt_some
theorem wrap64_of {n : Int} (h0 : 0 ≤ n) (h1 : n < 9223372036854775808) : wrap64 n = n := by unfold wrap64; omega
/-- a row's piece from a place on -/
def cut (A : Option Addr) (i e : Nat) : Value := .slice (A.map fun a => a.add i) e e
theorem chunk_iter (n : Nat) (hn : 2 ≤ n) (l Bs Bn : Nat) {A : Option Addr} {m c k : Nat} (hk : 1 ≤ k) (hk' : k < 4611686018427387904) (hm : m < 4611686018427387904) (hmc : m ≤ c) (J : Nat → World → Prop)
    (hJ : ∀ i W, J i W → Boxed W Bs 52 (.slice A m c) ∧ Boxed W Bn 3 (.int .i64 k))
    (hJd : ∀ i W, J i W → J i W.drew)
    (hY : ∀ i W, J i W → i < m → YieldAt Fence.wide (n - 1) Go.Proofs.Tryd.prog l #[cut A i (min k (m - i))] W fun e W' => e = .returned (.bool true) ∧ J (i + k) W')
    (W : World) (h0 : J 0 W) :
    CallsIn Fence.wide n Go.Proofs.Tryd.prog 79 #[.func (.yield l) #[] #[], .pointer (some ⟨Bs, 0, none⟩), .pointer (some ⟨Bn, 0, none⟩)] W fun e W' => (∃ v, e = .returned v) ∧ ∃ i, m ≤ i ∧ J i W' := by
  refine callsIn_of_wp Go.Proofs.Tryd.func79 rfl trivial ?_ rfl
  simp only [Go.Proofs.Tryd.ntmps79, List.size_toArray, List.length_cons, List.length_nil, Nat.reduceAdd, Nat.reduceSub, Array.replicate_succ, Array.replicate_zero, List.push_toArray, List.append_toArray, List.nil_append, List.cons_append]
  gi_wp2
  gi_loopw [4] (fun v4 wr => ∃ i : Nat, v4 = .int .i64 i ∧ J i wr ∧ i ≤ m + k) (fun v4 wr => match v4 with | .int _ i => (m + k - i.toNat) | _ => 0)
  case atStart => exact ⟨0, rfl, h0, by omega⟩
  case round =>
    obtain ⟨i, rfl, hj, him⟩ := hrel
    have hb := hJ _ _ hj
    have hb1 := hb.1.cell
    have hb2 := hb.2.cell
    by_cases hi : i < m
    · have hj' := hJd i _ hj
      have hY0 := hY i _ hj' hi
      have hb' := hJ _ _ hj'
      have hb1' := hb'.1.cell
      have hb2' := hb'.2.cell
      by_cases hlt : m - i < k
      · have hc : cut A i (min k (m - i)) = Value.slice (Option.map (fun x => x.add i) A) (m - i) (m - i) := by
          unfold cut
          rw [show min k (m - i) = m - i by omega]
        rw [hc] at hY0
        obtain ⟨fn, tmps, assign, body, hy, hR⟩ := hY0
        gi_wp2
        gi_region
        gi_wp2
        refine ⟨fun h => (by cases h), hR.mono ?_⟩
        rintro e W' ⟨rfl, hj2⟩
        have hb3 := (hJ _ _ hj2).1.cell
        have hb4 := (hJ _ _ hj2).2.cell
        gi_wp2
        refine ⟨⟨_, rfl, hj2, by omega⟩, ?_⟩
        show m + k - ((i : Int) + (k : Int)).toNat < m + k - ((i : Int)).toNat
        omega
      · have hc : cut A i (min k (m - i)) = Value.slice (Option.map (fun x => x.add i) A) (k) (k) := by
          unfold cut
          rw [show min k (m - i) = k by omega]
        rw [hc] at hY0
        obtain ⟨fn, tmps, assign, body, hy, hR⟩ := hY0
        gi_wp2
        gi_region
        gi_wp2
        refine ⟨fun h => (by cases h), hR.mono ?_⟩
        rintro e W' ⟨rfl, hj2⟩
        have hb3 := (hJ _ _ hj2).1.cell
        have hb4 := (hJ _ _ hj2).2.cell
        gi_wp2
        refine ⟨⟨_, rfl, hj2, by omega⟩, ?_⟩
        show m + k - ((i : Int) + (k : Int)).toNat < m + k - ((i : Int)).toNat
        omega
    · gi_wp2
      go_end0
      exact ⟨⟨_, rfl⟩, i, by omega, hj⟩
/-- what the loop lays for itself stays -/
def Own2 (B : Nat) (W W' : World) : Prop := ∀ k o, B ≤ k → W.heap[k]? = some o → ((∃ r, o = .loop r) ∨ (∃ d, o = .deferred d)) → W'.heap[k]? = some o
theorem boxed_put {W : World} {B k t : Nat} {v : Value} (h : Boxed W B t v) (o : Obj) (hk : B ≠ k) : Boxed (W.putObj k o) B t v := (World.putObj_heap_other hk).trans h
theorem range_chunk {g : Operand} {p : Tmp} {assign body : Code} {Q : Exit → Act → World → Prop} {a : Act} {w : World} {n : Nat} (hn : 3 ≤ n) {Bs Bn : Nat}
    (hg : a.eval g = .func (.func 79) #[] #[.pointer (some ⟨Bs, 0, none⟩), .pointer (some ⟨Bn, 0, none⟩)])
    {A : Option Addr} {m c k : Nat} (hk : 1 ≤ k) (hk' : k < 4611686018427387904) (hm : m < 4611686018427387904) (hmc : m ≤ c) (J : Nat → World → Prop)
    (hJ : ∀ i W, J i W → Boxed W Bs 52 (.slice A m c) ∧ Boxed W Bn 3 (.int .i64 k))
    (hJd : ∀ i W, J i W → J i W.drew)
    (hJa : ∀ i W o, J i W → w.heap.size ≤ W.heap.size → J i (W.alloc o)) (hJp : ∀ i W k o o', w.heap.size ≤ k → W.heap[k]? = some o' → o'.isCells = false → J i W → J i (W.putObj k o))
    (a₁ : Value → Act)
    (hassign : ∀ (l : Nat) (x : Value) (W : World) (K : Act → World → Prop), K (a₁ x) W →
      assign.wpIn (Fence.wide.inRound l) (n - 1 - 1) Go.Proofs.Tryd.prog (Exit.then K (fun _ _ _ => False)) { tmps := (#[p].zip #[x]).foldl (fun t (p, v) => t.setIfInBounds p v) a.tmps, defers := [] } W)
    (hbody : ∀ (l i : Nat) (W : World), J i W → i < m → body.wpIn (Fence.wide.inRound l) (n - 1 - 1) Go.Proofs.Tryd.prog (fun e _ W' => Own2 w.heap.size W W' ∧ (match e with
      | .normal => J (i + k) W'
      | _ => False)) (a₁ (cut A i (min k (m - i)))) W)
    (hdone : ∀ (D i : Nat) (W : World), w.heap.size ≤ D → m ≤ i → J i W → W.heap[D]? = some (.deferred (some [])) → Q .normal { a with defers := { target := .collected D, args := #[] } :: a.defers } W)
    (h0 : J 0 w) : (Code.rangeFunc g #[p] assign body).wpIn Fence.wide n Go.Proofs.Tryd.prog Q a w := by
  refine wpIn_rangeFunc ?_
  intro fn hfn
  obtain ⟨rec, hrec⟩ : ∃ rec : LoopState → Option Code → Loop, rec = fun st pe => { state := st, pending := pe, fn, tmps := a.tmps, params := #[p], assign, body, defers := w.heap.size } := ⟨_, rfl⟩
  obtain ⟨W1, hW1⟩ : ∃ W1, (w.alloc (.deferred (some []))).alloc (.loop (rec .ready none)) = W1 := ⟨_, rfl⟩
  have hL1 : W1.heap[w.heap.size + 1]? = some (.loop (rec .ready none)) := by
    rw [← hW1]; have := World.alloc_heap_new (w.alloc (.deferred (some []))) (.loop (rec .ready none)); rwa [World.size_alloc] at this
  have hK1 : W1.heap[w.heap.size]? = some (.deferred (some [])) := by
    rw [← hW1]; exact (Below.heap_alloc _ _ _ (by simp)).trans (World.alloc_heap_new w _)
  have hI1 : J 0 W1 := by rw [← hW1]; exact hJa _ _ _ (hJa _ _ _ h0 (Nat.le_refl _)) (by simp)
  have he : (Instr.enterLoop fn a.tmps #[p] assign body Fence.wide.round).run Go.Proofs.Tryd.prog w = .ok (w.heap.size + 1, [{ target := .collected w.heap.size, args := #[] }]) W1 := by
    rw [← hW1, hrec]; exact run_enterLoop_outer _ _ _ _ _
  refine ⟨w.heap.size + 1, [{ target := .collected w.heap.size, args := #[] }], W1, { target := .fn (.func 79) #[.pointer (some ⟨Bs, 0, none⟩), .pointer (some ⟨Bn, 0, none⟩)], args := #[.func (.yield (w.heap.size + 1)) #[] #[]] }, W1, 79,
    #[.func (.yield (w.heap.size + 1)) #[] #[], .pointer (some ⟨Bs, 0, none⟩), .pointer (some ⟨Bn, 0, none⟩)], W1, he, ?_, ?_, ?_, fun _ => by omega, ?_⟩
  · simp only [resolve, hg]
    simp [go_sem]
  · intro f' hf'; trivial
  · simp [invoke, go_sem, enters_of (P := Go.Proofs.Tryd.prog) Go.Proofs.Tryd.func79 (by kernel_rfl) rfl]
  · refine (chunk_iter (n - 1) (by omega) (w.heap.size + 1) Bs Bn hk hk' hm hmc
      (fun i W => J i W ∧ W.heap[w.heap.size + 1]? = some (.loop (rec .ready none)) ∧ W.heap[w.heap.size]? = some (.deferred (some [])))
      (fun i W h => hJ i W h.1) (fun i W h => ⟨hJd i W h.1, h.2⟩) ?_ W1 ⟨hI1, hL1, hK1⟩).mono ?_
    · rintro i W ⟨hi, hl, hk0⟩ him
      have hlt : w.heap.size + 1 < W.heap.size := (Array.getElem?_eq_some_iff.1 hl).1
      have hy := run_yield (P := Go.Proofs.Tryd.prog) (args := #[cut A i (min k (m - i))]) hl (by rw [hrec]; rfl)
      rw [hrec] at hy
      refine ⟨fn, _, assign, body, hy, roundIn_of_wpIn hfn (hassign _ (cut A i (min k (m - i))) W _ ⟨_, run_beginRound hl (by rw [hrec]), ?_⟩)⟩
      have hl2 : (W.putObj (w.heap.size + 1) (.loop { rec .ready none with state := .busy })).heap[w.heap.size + 1]? = some (.loop { rec .ready none with state := .busy }) := World.putObj_heap_same hlt
      have hk2 : (W.putObj (w.heap.size + 1) (.loop { rec .ready none with state := .busy })).heap[w.heap.size]? = some (.deferred (some [])) := (World.putObj_heap_other (by omega)).trans hk0
      refine wpIn_mono (hbody _ i _ (hJp _ _ _ _ _ (by omega) hl rfl hi) him) ?_
      rintro e a3 W3 ⟨ho, hp⟩
      cases e with
      | normal =>
        have hl3 := ho _ _ (by omega) hl2 (.inl ⟨_, rfl⟩)
        have hr := run_endRound (P := Go.Proofs.Tryd.prog) none hl3
        rw [hrec] at hr
        refine ⟨_, _, hr, rfl, hJp _ _ _ _ _ (by omega) hl3 rfl hp, ?_, ?_⟩
        · rw [hrec]; exact World.putObj_heap_same (Array.getElem?_eq_some_iff.1 hl3).1
        · exact (World.putObj_heap_other (by omega)).trans (ho _ _ (Nat.le_refl _) hk2 (.inr ⟨_, rfl⟩))
      | _ => exact hp.elim
    · rintro e W' ⟨⟨v, rfl⟩, i, him, hj, hl, hk0⟩
      exact ⟨none, _, by have := run_endLoop (P := Go.Proofs.Tryd.prog) hl (by rw [hrec]; simp); rw [hrec] at this; exact this, hdone _ i _ (Nat.le_refl _) him (hJp _ _ _ _ _ (by omega) hl rfl hj) ((World.putObj_heap_other (by omega)).trans hk0)⟩
end Go.Proofs.YtlioalaehkohlaaDoor.Ck
