/- A range over strings.SplitSeq at one slash. Conditions: as each theorem states them. -/
import Derived.Test.YtcnegcjjeakmmaaDoorN1
namespace Go.Proofs.YtcnegcjjeakmmaaDoor.Nm
set_option linter.unusedVariables false
set_option linter.unusedSimpArgs false
open Go Go.RowKit Go.Shelf Go.Proofs Go.Lib
attribute [local go_sem] Oper.semAt_some
/-- what the loop lays for itself stays -/
def Own2 (B : Nat) (W W' : World) : Prop := ∀ k o, B ≤ k → W.heap[k]? = some o → ((∃ r, o = .loop r) ∨ (∃ d, o = .deferred d)) → W'.heap[k]? = some o
theorem boxed_put {W : World} {B k t : Nat} {v : Value} (h : Boxed W B t v) (o : Obj) (hk : B ≠ k) : Boxed (W.putObj k o) B t v := (World.putObj_heap_other hk).trans h
theorem grownBy_other {W : World} {k : Nat} (v : Value) (b : Nat) (h : k ≠ b) : (W.setCell ⟨b, 0, none⟩ v).heap[k]? = W.heap[k]? := by
  simp only [World.setCell, Array.getElem?_modify]
  rw [if_neg (fun e => h e.symm)]
theorem range_split {g : Operand} {p : Tmp} {assign body : Code} {Q : Exit → Act → World → Prop} {a : Act} {w : World} {n : Nat} (hn : 3 ≤ n) {Bs Bp Bv : Nat} (hs : Bs < w.heap.size) (hpl : Bp < w.heap.size)
    (hg : a.eval g = .func (.func 67) #[] #[.pointer (some ⟨Bp, 0, none⟩), .pointer (some ⟨Bs, 0, none⟩), .pointer (some ⟨Bv, 0, none⟩)])
    (I : ByteArray → World → Prop) (Id Ix : World → Prop)
    (hI : ∀ t W, I t W → Boxed W Bs 9 (.string t) ∧ Boxed W Bp 9 (.string ⟨#[47]⟩) ∧ Boxed W Bv 3 (.int .i64 0) ∧ t.size ≤ 1000)
    (hIa : ∀ t W o, I t W → w.heap.size ≤ W.heap.size → I t (W.alloc o)) (hIp : ∀ t W k o, w.heap.size ≤ k → I t W → I t (W.putObj k o)) (hIdp : ∀ W k o, w.heap.size ≤ k → Id W → Id (W.putObj k o)) (hIxp : ∀ W k o, w.heap.size ≤ k → Ix W → Ix (W.putObj k o))
    (a₁ : ByteArray → Act)
    (hassign : ∀ (l : Nat) (x : ByteArray) (W : World) (K : Act → World → Prop), K (a₁ x) W →
      assign.wpIn (Fence.wide.inRound l) (n - 1 - 1) Go.Proofs.Tryd.prog (Exit.then K (fun _ _ _ => False)) { tmps := (#[p].zip #[Value.string x]).foldl (fun t (p, v) => t.setIfInBounds p v) a.tmps, defers := [] } W)
    (hbody : ∀ (l : Nat) (t : ByteArray) (W : World), I t W → body.wpIn (Fence.wide.inRound l) (n - 1 - 1) Go.Proofs.Tryd.prog (fun e _ W' => Own2 w.heap.size W W' ∧ (match e with
      | .normal => (idx t < 0 → Id W') ∧ (0 ≤ idx t → ∀ k o, w.heap.size ≤ k → I (tl t) ((W'.putObj k o).setCell ⟨Bs, 0, none⟩ (.string (tl t))) ∧ Boxed W' Bs 9 (.string t) ∧ Boxed W' Bp 9 (.string ⟨#[47]⟩))
      | .ret => Ix W'
      | _ => False)) (a₁ (hd t)) W)
    (hdone : ∀ (D : Nat) (W : World), w.heap.size ≤ D → Id W → W.heap[D]? = some (.deferred (some [])) → Q .normal { a with defers := { target := .collected D, args := #[] } :: a.defers } W)
    (hstop : ∀ (D : Nat) (W : World), w.heap.size ≤ D → Ix W → W.heap[D]? = some (.deferred (some [])) → Code.ret.wpIn Fence.wide n Go.Proofs.Tryd.prog Q { a with defers := { target := .collected D, args := #[] } :: a.defers } W)
    {t0 : ByteArray} (h0 : I t0 w) : (Code.rangeFunc g #[p] assign body).wpIn Fence.wide n Go.Proofs.Tryd.prog Q a w := by
  refine wpIn_rangeFunc ?_
  intro fn hfn
  obtain ⟨rec, hrec⟩ : ∃ rec : LoopState → Option Code → Loop, rec = fun st pe => { state := st, pending := pe, fn, tmps := a.tmps, params := #[p], assign, body, defers := w.heap.size } := ⟨_, rfl⟩
  obtain ⟨W1, hW1⟩ : ∃ W1, (w.alloc (.deferred (some []))).alloc (.loop (rec .ready none)) = W1 := ⟨_, rfl⟩
  have hL1 : W1.heap[w.heap.size + 1]? = some (.loop (rec .ready none)) := by
    rw [← hW1]; have := World.alloc_heap_new (w.alloc (.deferred (some []))) (.loop (rec .ready none)); rwa [World.size_alloc] at this
  have hK1 : W1.heap[w.heap.size]? = some (.deferred (some [])) := by
    rw [← hW1]; exact (Below.heap_alloc _ _ _ (by simp)).trans (World.alloc_heap_new w _)
  have hI1 : I t0 W1 := by rw [← hW1]; exact hIa _ _ _ (hIa _ _ _ h0 (Nat.le_refl _)) (by simp)
  have he : (Instr.enterLoop fn a.tmps #[p] assign body Fence.wide.round).run Go.Proofs.Tryd.prog w = .ok (w.heap.size + 1, [{ target := .collected w.heap.size, args := #[] }]) W1 := by
    rw [← hW1, hrec]; exact run_enterLoop_outer _ _ _ _ _
  refine ⟨w.heap.size + 1, [{ target := .collected w.heap.size, args := #[] }], W1, { target := .fn (.func 67) #[.pointer (some ⟨Bp, 0, none⟩), .pointer (some ⟨Bs, 0, none⟩), .pointer (some ⟨Bv, 0, none⟩)], args := #[.func (.yield (w.heap.size + 1)) #[] #[]] }, W1, 67,
    #[.func (.yield (w.heap.size + 1)) #[] #[], .pointer (some ⟨Bp, 0, none⟩), .pointer (some ⟨Bs, 0, none⟩), .pointer (some ⟨Bv, 0, none⟩)], W1, he, ?_, ?_, ?_, fun _ => by omega, ?_⟩
  · simp only [resolve, hg]
    simp [go_sem]
  · intro f' hf'; trivial
  · simp [invoke, go_sem, enters_of (P := Go.Proofs.Tryd.prog) Go.Proofs.Tryd.func67 (by kernel_rfl) rfl]
  · refine (split_iter (n - 1) (by omega) (w.heap.size + 1) Bs Bp Bv
      (fun t W => I t W ∧ W.heap[w.heap.size + 1]? = some (.loop (rec .ready none)) ∧ W.heap[w.heap.size]? = some (.deferred (some [])))
      (fun W => Id W ∧ W.heap[w.heap.size + 1]? = some (.loop (rec .ready none)) ∧ W.heap[w.heap.size]? = some (.deferred (some [])))
      (fun W => Ix W ∧ W.heap[w.heap.size + 1]? = some (.loop (rec .done (some .ret))) ∧ W.heap[w.heap.size]? = some (.deferred (some [])))
      (fun t W h => hI t W h.1) ?_ t0 W1 ⟨hI1, hL1, hK1⟩).mono ?_
    · rintro t W ⟨hi, hl, hk⟩
      have hlt : w.heap.size + 1 < W.heap.size := (Array.getElem?_eq_some_iff.1 hl).1
      have hy := run_yield (P := Go.Proofs.Tryd.prog) (args := #[.string (hd t)]) hl (by rw [hrec]; rfl)
      rw [hrec] at hy
      refine ⟨fn, _, assign, body, hy, roundIn_of_wpIn hfn (hassign _ (hd t) W _ ⟨_, run_beginRound hl (by rw [hrec]), ?_⟩)⟩
      have hl2 : (W.putObj (w.heap.size + 1) (.loop { rec .ready none with state := .busy })).heap[w.heap.size + 1]? = some (.loop { rec .ready none with state := .busy }) := World.putObj_heap_same hlt
      have hk2 : (W.putObj (w.heap.size + 1) (.loop { rec .ready none with state := .busy })).heap[w.heap.size]? = some (.deferred (some [])) := (World.putObj_heap_other (by omega)).trans hk
      refine wpIn_mono (hbody _ t _ (hIp _ _ _ _ (by omega) hi)) ?_
      have fin : ∀ (jump : Option Code) (W3 : World), Own2 w.heap.size (W.putObj (w.heap.size + 1) (.loop { rec .ready none with state := .busy })) W3 →
          (Instr.endRound (w.heap.size + 1) jump).run Go.Proofs.Tryd.prog W3 = .ok (.bool jump.isNone) (W3.putObj (w.heap.size + 1) (.loop (rec (if jump.isNone then .ready else .done) jump))) ∧
          (W3.putObj (w.heap.size + 1) (.loop (rec (if jump.isNone then .ready else .done) jump))).heap[w.heap.size + 1]? = some (.loop (rec (if jump.isNone then .ready else .done) jump)) ∧
          (W3.putObj (w.heap.size + 1) (.loop (rec (if jump.isNone then .ready else .done) jump))).heap[w.heap.size]? = some (.deferred (some [])) := fun jump W3 hk3 => by
        have hl3 := hk3 _ _ (by omega) hl2 (.inl ⟨_, rfl⟩)
        have := run_endRound (P := Go.Proofs.Tryd.prog) jump hl3
        rw [hrec] at this ⊢
        exact ⟨this, World.putObj_heap_same (Array.getElem?_eq_some_iff.1 hl3).1, (World.putObj_heap_other (by omega)).trans (hk3 _ _ (Nat.le_refl _) hk2 (.inr ⟨_, rfl⟩))⟩
      rintro e a3 W3 ⟨ho, hp⟩
      cases e with
      | normal =>
        obtain ⟨hr, hl4, hk4⟩ := fin none W3 ho
        obtain ⟨p1, p2⟩ := hp
        refine ⟨_, _, hr, .inl ⟨rfl, fun h => ⟨hIdp _ _ _ (by omega) (p1 h), hl4, hk4⟩, fun h => ?_⟩⟩
        obtain ⟨q1, q2, q3⟩ := p2 h (w.heap.size + 1) (.loop (rec (if (none : Option Code).isNone then .ready else .done) none)) (by omega)
        refine ⟨boxed_put q2 _ (by omega), boxed_put q3 _ (by omega), q1, ?_, ?_⟩
        · exact (grownBy_other _ _ (by omega)).trans hl4
        · exact (grownBy_other _ _ (by omega)).trans hk4
      | ret =>
        obtain ⟨hr, hl4, hk4⟩ := fin (some .ret) W3 ho
        exact ⟨_, _, hr, .inr ⟨rfl, hIxp _ _ _ (by omega) hp, hl4, hk4⟩⟩
      | exit id => exact hp.elim
      | goto t => exact hp.elim
      | panic ch => exact hp.elim
      | outgrown => exact hp.elim
    · rintro e W2 ⟨⟨v, rfl⟩, (⟨hi, hl, hk⟩ | ⟨hi, hl, hk⟩)⟩
      · exact ⟨none, _, by have := run_endLoop (P := Go.Proofs.Tryd.prog) hl (by rw [hrec]; simp); rw [hrec] at this; exact this, hdone _ _ (Nat.le_refl _) (hIdp _ _ _ (by omega) hi) ((World.putObj_heap_other (by omega)).trans hk)⟩
      · exact ⟨some .ret, _, by have := run_endLoop (P := Go.Proofs.Tryd.prog) hl (by rw [hrec]; simp); rw [hrec] at this; exact this, hstop _ _ (Nat.le_refl _) (hIxp _ _ _ (by omega) hi) ((World.putObj_heap_other (by omega)).trans hk)⟩
end Go.Proofs.YtcnegcjjeakmmaaDoor.Nm
