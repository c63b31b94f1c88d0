/- crc.Blocks: what it answers. Conditions: as each theorem states them. -/
import Derived.Test.YtlioalaehkohlaaDoorN4
import Derived.Test.YtlioalaehkohlaaDoorVH
import Derived.Stop.RegionWithIn
import Derived.Lib.OthersKept
namespace Go.Proofs.YtlioalaehkohlaaDoor.Ck
set_option linter.unusedVariables false
set_option linter.unusedSimpArgs false
open Go Go.RowKit Go.Proofs Go.Proofs.YtlioalaehkohlaaDoor.Vm
attribute [local go_sem] Oper.semAt_some
/-- the sums of pieces of k -/
def cks (sumB : List Int → Option Int) (k : Nat) : Nat → List Int → Option (List Int)
  | 0, _ => none
  | f + 1, xs => match xs with
    | [] => some []
    | y :: ys => (sumB (List.take k (y :: ys))).bind fun s => (cks sumB k f (List.drop k (y :: ys))).bind fun r => some (s :: r)
def blocksN (sumB : List Int → Option Int) (n : Nat) (xs : List Int) (k : Int) : Option (List Int) :=
  if k < 1 then some [] else if (List.length xs : Int) ≤ lim then (if k ≤ lim then cks sumB k.toNat n xs else none) else none
theorem cks_step {sumB : List Int → Option Int} {k f : Nat} {xs rs : List Int} (h : cks sumB k f xs = some rs) : (xs = [] ∧ rs = []) ∨ ∃ s r f', xs ≠ [] ∧ sumB (xs.take k) = some s ∧ cks sumB k f' (xs.drop k) = some r ∧ rs = s :: r := by
  cases f with
  | zero => cases h
  | succ f =>
    cases xs with
    | nil => cases h; exact .inl ⟨rfl, rfl⟩
    | cons y ys =>
      unfold cks at h
      cases hs : sumB (List.take k (y :: ys)) with
      | none => simp [hs] at h
      | some s =>
        cases hr : cks sumB k f (List.drop k (y :: ys)) with
        | none => simp [hs, hr] at h
        | some r =>
          simp [hs, hr] at h
          exact .inr ⟨s, r, f, by simp, rfl, hr, h.symm⟩
theorem cks_len {sumB : List Int → Option Int} {k : Nat} (hk : 1 ≤ k) : ∀ {f : Nat} {xs rs : List Int}, cks sumB k f xs = some rs → rs.length ≤ xs.length
  | 0, _, _, h => by cases h
  | f + 1, [], rs, h => by cases h; simp
  | f + 1, y :: ys, rs, h => by
    unfold cks at h
    cases hs : sumB (List.take k (y :: ys)) with
    | none => simp [hs] at h
    | some s =>
      cases hr : cks sumB k f (List.drop k (y :: ys)) with
      | none => simp [hs, hr] at h
      | some r =>
        simp [hs, hr] at h
        have := cks_len hk hr
        rw [List.length_drop] at this
        rw [← h]
        simp only [List.length_cons] at this ⊢
        omega
theorem vr_cut {W : World} {F : Nat → Prop} {xs : List Int} {A : Option Addr} {c : Nat} (h : VRv W F (.list (.int .u8)) xs (.slice A xs.length c)) {i e : Nat} (hi : i + e ≤ xs.length) (he : e ≤ maxLen) : VRv W F (.list (.int .u8)) ((xs.drop i).take e) (cut A i e) := by
  have h' : VR W F (.list (.int .u8)) xs [.slice A xs.length c] := by simpa [VRv, Ki.agg] using h
  obtain ⟨A', c', h1, h2, h3, h4⟩ := h'
  simp only [List.cons.injEq, Value.slice.injEq, and_true] at h1
  obtain ⟨rfl, _, rfl⟩ := h1
  have hl : ((xs.drop i).take e).length = e := by rw [List.length_take, List.length_drop]; omega
  have : VR W F (.list (.int .u8)) ((xs.drop i).take e) [cut A i e] := by
    refine ⟨A.map fun a => a.add i, e, ?_, by rw [hl]; exact Nat.le_refl _, he, fun j x hx => ?_⟩
    · unfold cut; rw [hl]
    · have hj : j < e := by
        have := (List.getElem?_eq_some_iff.1 hx).1
        rw [hl] at this; exact this
      have hx' : (xs : List Int)[i + j]? = some x := by
        rw [List.getElem?_take, if_pos hj, List.getElem?_drop] at hx; exact hx
      obtain ⟨b, o, ds, e1, e2, e3, e4⟩ := h4 (i + j) x hx'
      refine ⟨b, o + i, ds, by rw [e1]; simp [Addr.add], e2, e3, ?_⟩
      have : o + (i + j) * (Ki.int IntKind.u8).sz = o + i + j * (Ki.int IntKind.u8).sz := by
        show o + (i + j) * 1 = o + i + j * 1; omega
      rw [← this]; exact e4
  simpa [VRv, Ki.agg] using this
theorem chunk_ok (A : Option Addr) (m c : Nat) (k : Int) (hk : ¬ k < 1) (w : World) : Calls Go.Proofs.Tryd.prog 55 #[.slice A m c, .int .i64 k] w fun e w' =>
    e = .returned (.func (.func 79) #[] #[.pointer (some ⟨w.heap.size, 0, none⟩), .pointer (some ⟨w.heap.size + 1, 0, none⟩)]) ∧
    w' = (w.alloc (.cells #[.slice A m c] 52)).alloc (.cells #[.int .i64 k] 3) := by
  go_enter Go.Proofs.Tryd.func55, Go.Proofs.Tryd.ntmps55
  go_wp2
  go_ret
  simp
theorem res_ok {tm : Array Value} {W : World} {v : Value} (ht : tm.getD 4 undef = v) : (results Go.Proofs.Tryd.f30 tm).run Go.Proofs.Tryd.prog W = .ok v W := by
  have h1 : (Go.Proofs.Tryd.f30).results = #[.tmp 4] := rfl
  unfold results
  rw [h1]
  have ht' : tm[4]?.getD undef = v := by rw [← Array.getD_eq_getD_getElem?]; exact ht
  simp [go_sem, ht']
theorem below_put {B : Nat} {a W : World} (h : Below B a W) {k : Nat} (hk : B ≤ k) (o : Obj) : Below B a (W.putObj k o) := h.trans ⟨rfl, rfl, rfl, by simp [World.putObj], fun i hi => World.putObj_heap_other (by omega)⟩
theorem opIn_append {F : Fence} {n : Nat} {P : Program} {o : Oper} {a : Act} {w w' : World} {v' : Value} {K : Act → World → Prop} {Q : Exit → Act → World → Prop} (s x : Operand) (t : TypeId) (hop : o.op = Op.call { callee := Callee.builtin Builtin.append, args := #[s, x], argTypes := #[t, t] })
    (hrun : (Builtin.append_ #[t, t] o.type #[a.eval s, a.eval x]).run P w = .ok v' w') (hK : K (a.put o.dst v') w') : o.wpIn F n P a w K Q := by
  unfold Oper.wpIn
  refine ⟨?_, ?_⟩
  · simp [Oper.about, hop, resolve, Target.leads, Sem.run_pure]
  · rw [Oper.semAt_plain F _ _ (by rw [hop]; intro c hc'; cases hc')]
    simp [execOp, hop, resolve, invoke, builtin, hrun, Result.andThen]
    exact hK
set_option maxRecDepth 100000 in
set_option maxHeartbeats 1600000 in
theorem blocks_ok {F : Nat → Prop} {sumB : List Int → Option Int} {w : World} {xs : List Int} {v : Value} {k : Int} {n : Nat} (hv : VRv w F (.list (.int .u8)) xs v) (hF : ∀ b, F b → b < w.heap.size)
    (hsum : ∀ (ys : List Int) (u : Value) (r : Int) (W : World), sumB ys = some r → Below w.heap.size w W → VRv W F (.list (.int .u8)) ys u → Calls Go.Proofs.Tryd.prog 51 #[u] W fun e w' => e = .returned (.int .u32 r) ∧ Below W.heap.size W w')
    {rs : List Int} (hr : blocksN sumB n xs k = some rs) : Calls Go.Proofs.Tryd.prog 30 #[v, .int .i64 k] w fun e w' => ∃ v', e = .returned v' ∧ Below w.heap.size w w' ∧ w'.ownsRow w.heap.size 70 1 v' rs.length (rs.map (Value.int .u32)) := by
  obtain ⟨A, c, rfl, hl, hm, _⟩ := list_cells (C := ⟨Go.Proofs.Tryd.prog, w, F, fun _ => False, ⟨0, []⟩, fun _ => undef, []⟩) (E := ⟨fun _ => none, fun _ => undef, fun _ => 0, w, fun _ => False⟩) (hv.mono (fun b hb => ⟨⟨rfl, .inl hb, hF b hb⟩, rfl⟩))
  refine (callsIn_wide (n := 5)).1 ?_
  refine callsIn_of_wp_marks Go.Proofs.Tryd.func30 rfl trivial ?_
  simp only [Go.Proofs.Tryd.ntmps30, List.size_toArray, List.length_cons, List.length_nil, Nat.reduceAdd, Nat.reduceSub, Array.replicate_succ, Array.replicate_zero, List.push_toArray, List.append_toArray, List.nil_append, List.cons_append]
  by_cases hk : k < 1
  · have hrs : rs = [] := by
      unfold blocksN at hr
      rw [if_pos hk] at hr
      cases hr; rfl
    subst hrs
    gi_wp2
    refine ⟨_, res_ok rfl, _, rfl, Below.refl _ w, World.ownsRow_nil _ _ _ _⟩
  · have hr' : (xs.length : Int) ≤ lim ∧ k ≤ lim ∧ cks sumB k.toNat n xs = some rs := by
      unfold blocksN at hr
      rw [if_neg hk] at hr
      split at hr
      · split at hr
        · exact ⟨by assumption, by assumption, hr⟩
        · cases hr
      · cases hr
    obtain ⟨hl1, hl2, hck⟩ := hr'
    have hlim : lim = 4294967296 := rfl
    obtain ⟨kn, rfl⟩ : ∃ kn : Nat, k = (kn : Int) := ⟨k.toNat, by omega⟩
    rw [Int.toNat_natCast] at hck
    have hrl := cks_len (by omega) hck
    obtain ⟨i0, hi⟩ : ∃ i0, Go.Proofs.Tryd.prog.info? 70 = some i0 := Option.isSome_iff_exists.1 (by kernel_rfl)
    have hz : (Go.Proofs.Tryd.prog.info? 70).map (fun i => (i.size, i.bytes, i.zero.map fun z => z.cells.size)) = some (1, 4, some 1) := by kernel_rfl
    rw [hi] at hz
    simp only [Option.map_some, Option.some.injEq, Prod.mk.injEq, Option.map_eq_some_iff] at hz
    obtain ⟨hz1, hz2, z0, hz0, hz3⟩ := hz
    gi_wp2_with (refine ⟨trivial, ?_⟩; refine (callsIn_wide.2 (chunk_ok A _ c kn hk _)).mono ?_; rintro e W1 ⟨rfl, rfl⟩)
    refine range_chunk (n := 5) (by omega) (Bs := w.heap.size + 1) (Bn := w.heap.size + 2) ?hg (A := A) (m := xs.length) (c := c) (k := kn) (by omega) (by omega) (by omega) hl
      (fun i W => Boxed W (w.heap.size + 1) 52 (.slice A xs.length c) ∧ Boxed W (w.heap.size + 2) 3 (.int .i64 kn) ∧ Below w.heap.size w W ∧ w.heap.size + 5 ≤ W.heap.size + 2 ∧ ∃ (acc rest : List Int) (f : Nat) (v : Value), Boxed W w.heap.size 66 v ∧ W.ownsRow w.heap.size 70 1 v acc.length (acc.map (Value.int .u32)) ∧ cks sumB kn f (xs.drop i) = some rest ∧ acc ++ rest = rs)
      ?hJ ?hJd ?hJa ?hJp (fun x => { tmps := #[.slice A xs.length c, .int .i64 kn, undef, undef, .slice none 0 0, .pointer (some ⟨w.heap.size, 0, none⟩), x, .int .i64 kn, .bool false, .slice A xs.length c, .int .i64 kn, .func (.func 79) #[] #[.pointer (some ⟨w.heap.size + 1, 0, none⟩), .pointer (some ⟨w.heap.size + 1 + 1, 0, none⟩)], x, undef, undef, undef, undef, undef, undef], defers := [] }) ?assign ?body ?done ?start
    case hg => rfl
    case hJ => exact fun i W h => ⟨h.1, h.2.1⟩
    case hJd =>
      rintro i W ⟨h1, h2, h3, h4, acc, rest, f, v, h5, h6, h7, h8⟩
      exact ⟨h1, h2, ⟨h3.os, h3.tape, h3.output, h3.size, h3.block⟩, h4, acc, rest, f, v, h5, h6, h7, h8⟩
    case hJa =>
      rintro i W o ⟨h1, h2, h3, h4, acc, rest, f, v, h5, h6, h7, h8⟩ hle
      exact ⟨h1.alloc _, h2.alloc _, h3.alloc h3.size _, by simp only [World.size_alloc]; omega, acc, rest, f, v, h5.alloc _, h6.alloc _, h7, h8⟩
    case hJp =>
      rintro i W k o o' hk ho hc ⟨h1, h2, h3, h4, acc, rest, f, v, h5, h6, h7, h8⟩
      simp at hk
      exact ⟨boxed_put h1 _ (by omega), boxed_put h2 _ (by omega), below_put h3 (by omega) _, by simp [World.putObj]; omega, acc, rest, f, v, boxed_put h5 _ (by omega), ownsRow_putObj h6 _ ho hc, h7, h8⟩
    case assign =>
      intro l x W K hK
      gi_wp2
      exact hK
    case start =>
      refine ⟨?_, ?_, ?_, by simp only [World.size_alloc]; omega, [], rs, n, .slice none 0 0, ?_, World.ownsRow_nil _ _ _ _, by rw [List.drop_zero]; exact hck, rfl⟩
      · have := (Boxed.new (w.alloc (.cells #[.slice none 0 0] 66)) 52 (.slice A xs.length c)).alloc (.cells #[.int .i64 (kn : Int)] 3)
        simpa using this
      · have := Boxed.new ((w.alloc (.cells #[.slice none 0 0] 66)).alloc (.cells #[.slice A xs.length c] 52)) 3 (.int .i64 (kn : Int))
        simpa using this
      · exact (((Below.refl _ w).alloc (Nat.le_refl _) _).alloc (by simp) _).alloc (by simp; omega) _
      · exact ((Boxed.new w 66 (.slice none 0 0)).alloc _).alloc _
    case done =>
      rintro D i W hD him ⟨h1, h2, h3, h4, acc, rest, f, v, h5, h6, h7, h8⟩ hK
      simp at hD
      have h5c := h5.cell
      have hrest : acc = rs := by
        rcases cks_step h7 with ⟨_, rfl⟩ | ⟨_, _, _, hne, _⟩
        · rw [List.append_nil] at h8; exact h8
        · exact absurd (List.drop_eq_nil_of_le him) hne
      subst hrest
      gi_wp2
      refine ⟨by simp, .inl ⟨_, _, rfl, run_takeDeferred hK, _, res_ok rfl, v, rfl, ?_, ?_⟩⟩
      · exact below_put h3 (by omega) _
      · exact ownsRow_putObj h6 _ hK rfl
    case body =>
      rintro l i W ⟨h1, h2, h3, h4, acc, rest, f, v, h5, h6, h7, h8⟩ him
      have h5c := h5.cell
      have h5f := h5.frozen
      have hne : xs.drop i ≠ [] := fun e => by have := List.length_drop (l := xs) (i := i); rw [e] at this; simp at this; omega
      obtain ⟨s, r, f', _, hs, hc', rfl⟩ : ∃ s r f', xs.drop i ≠ [] ∧ sumB ((xs.drop i).take kn) = some s ∧ cks sumB kn f' ((xs.drop i).drop kn) = some r ∧ rest = s :: r := by
        rcases cks_step h7 with ⟨e, _⟩ | e
        · exact absurd e hne
        · exact e
      have hB0 : Below w.heap.size w W.drew := ⟨h3.os, h3.tape, h3.output, h3.size, h3.block⟩
      have hvW : VRv W.drew F (.list (.int .u8)) ((xs.drop i).take kn) (cut A i (min kn (xs.length - i))) := by
        have h9 := vr_cut (VRv.mono (F' := F) (fun b hb => ⟨hb, hB0.block b (hF b hb)⟩) hv) (i := i) (e := min kn (xs.length - i)) (by omega) (by unfold maxLen; omega)
        rwa [show (xs.drop i).take (min kn (xs.length - i)) = (xs.drop i).take kn by rw [← List.length_drop, ← List.take_take, List.take_length]] at h9
      have hal : acc.length + 1 ≤ rs.length := by rw [← h8]; simp
      have hcall : Calls Go.Proofs.Tryd.prog 51 #[cut A i (min kn (xs.length - i))] W.drew fun e W1 => e = .returned (.int .u32 s) ∧ Below W.drew.heap.size W.drew W1 ∧ W1.cell? ⟨w.heap.size, 0, none⟩ = some v ∧ (W1.alloc (.cells #[.int .u32 s] 70)).cell? ⟨w.heap.size, 0, none⟩ = some v ∧
          ∃ gg cc W2, (Builtin.append_ #[66, 66] 66 #[v, .slice (some ⟨W1.heap.size, 0, none⟩) 1 1]).run Go.Proofs.Tryd.prog (W1.alloc (.cells #[.int .u32 s] 70)) = .ok (.slice (some ⟨gg, 0, none⟩) (acc.length + 1) cc) W2 ∧
            W2.cell? ⟨w.heap.size, 0, none⟩ = some v ∧ W2.frozen? ⟨w.heap.size, 0, none⟩ = false ∧
            Boxed (W2.setCell ⟨w.heap.size, 0, none⟩ (.slice (some ⟨gg, 0, none⟩) (acc.length + 1) cc)) w.heap.size 66 (.slice (some ⟨gg, 0, none⟩) (acc.length + 1) cc) ∧
            (W2.setCell ⟨w.heap.size, 0, none⟩ (.slice (some ⟨gg, 0, none⟩) (acc.length + 1) cc)).ownsRow w.heap.size 70 1 (.slice (some ⟨gg, 0, none⟩) (acc.length + 1) cc) (acc.length + 1) (acc.map (Value.int .u32) ++ [.int .u32 s]) ∧
            KeepsOthers W1 (W2.setCell ⟨w.heap.size, 0, none⟩ (.slice (some ⟨gg, 0, none⟩) (acc.length + 1) cc)) ∧ Below w.heap.size W1 (W2.setCell ⟨w.heap.size, 0, none⟩ (.slice (some ⟨gg, 0, none⟩) (acc.length + 1) cc)) ∧
            Boxed (W2.setCell ⟨w.heap.size, 0, none⟩ (.slice (some ⟨gg, 0, none⟩) (acc.length + 1) cc)) (w.heap.size + 1) 52 (.slice A xs.length c) ∧ Boxed (W2.setCell ⟨w.heap.size, 0, none⟩ (.slice (some ⟨gg, 0, none⟩) (acc.length + 1) cc)) (w.heap.size + 2) 3 (.int .i64 kn) := by
        refine (hsum _ _ s W.drew hs hB0 hvW).mono ?_
        rintro e W1 ⟨rfl, hB⟩
        have hg1 : W.grownBy W1 none := ⟨hB.os, hB.tape, hB.output, hB.size, fun k hk _ => hB.block k hk⟩
        have b1 : Boxed W1 w.heap.size 66 v := (hB.block _ h5.lt).trans h5
        have o1 : W1.ownsRow w.heap.size 70 1 v acc.length (acc.map (Value.int .u32)) := h6.kept hg1 (by cases hv1 : v.ownBlock with | none => exact .inl rfl | some b => exact .inr (by simp))
        obtain ⟨v', W2, hrun, o2, g2, _⟩ := run_append_own (P := Go.Proofs.Tryd.prog) (w := W1.alloc (.cells #[.int .u32 s] 70)) w.heap.size 66 66 70 i0 z0 1 4 Go.Proofs.Tryd.underlying66 hi hz0 hz1 hz2 hz3 (by decide) v acc.length (acc.map (Value.int .u32)) (o1.alloc _) ⟨W1.heap.size, 0, none⟩ 1 1 [.int .u32 s] rfl (cell_one_new _ _ _) (by simp [Value.oneCell']) (by unfold maxLen; omega) (by omega) (by have := hB.size; have := hB0.size; simp only [World.size_alloc]; omega)
        obtain ⟨c1, c2, c3, c4, c5⟩ := b1.appended (by decide) o1 (by have := hB.size; have := hB0.size; omega) (Nat.le_refl _) o2 g2
        obtain ⟨gg, cc, rfl⟩ := ownsRow_succ o2
        have q1 : Boxed W1 (w.heap.size + 1) 52 (.slice A xs.length c) := (hB.block _ h1.lt).trans h1
        have q2 : Boxed W1 (w.heap.size + 2) 3 (.int .i64 kn) := (hB.block _ h2.lt).trans h2
        exact ⟨rfl, hB, b1.cell, (b1.alloc _).cell, gg, cc, W2, hrun, c1.cell, c1.frozen, c2, c3, c4, c5, ((q1.alloc _).kept g2 (q1.not_row (by decide) o1)).kept (grownBy_setCell' W2 w.heap.size _) (by simp), ((q2.alloc _).kept g2 (q2.not_row (by decide) o1)).kept (grownBy_setCell' W2 w.heap.size _) (by simp)⟩
      gi_wp2
      refine wpIn_region_any (by kernel_rfl) ?_
      change wpAnyIn _ _ _ _ _ _ _ _ _ (World.drew _)
      refine wpAnyIn_ready (rs := [0, 1]) (by kernel_rfl) (by simp) ?_
      refine AllReadyIn.cons rfl (fun K hK => ?_) (AllReadyIn.cons rfl (fun K hK => ?_) AllReadyIn.nil)
      · skip
        go_simp
        refine hK _ _ ?_
        clear hK K
        refine wpAnyIn_ready (rs := [1]) (by kernel_rfl) (by simp) ?_
        refine AllReadyIn.cons rfl (fun K hK => ?_) AllReadyIn.nil
        go_simp
        refine hK _ _ ?_
        clear hK K
        refine wpAnyIn_ready (rs := [2]) (by kernel_rfl) (by simp) ?_
        refine AllReadyIn.cons rfl (fun K hK => ?_) AllReadyIn.nil
        go_simp
        refine ⟨trivial, ?_⟩
        refine (CallsIn.inRound l (callsIn_wide.2 hcall)).mono ?_
        rintro e W1 ⟨rfl, hB, z1, z2, gg, cc, W2, hrun, d1, d2, c2, c3, c4, c5, c6, c7⟩
        dsimp only
        refine hK _ _ ?_
        clear hK K
        refine wpAnyIn_ready (rs := [3]) (by kernel_rfl) (by simp) ?_
        refine AllReadyIn.cons rfl (fun K hK => ?_) AllReadyIn.nil
        go_simp
        refine hK _ _ ?_
        clear hK K
        refine wpAnyIn_ready (rs := [4]) (by kernel_rfl) (by simp) ?_
        refine AllReadyIn.cons rfl (fun K hK => ?_) AllReadyIn.nil
        rw [if_pos (by kernel_rfl)]
        refine opIn_append (.tmp 13) (.tmp 16) 66 rfl hrun (hK _ _ ?_)
        clear hK K
        refine wpAnyIn_ready (rs := [5]) (by kernel_rfl) (by simp) ?_
        refine AllReadyIn.cons rfl (fun K hK => ?_) AllReadyIn.nil
        go_simp
        refine hK _ _ ?_
        clear hK K
        refine wpAnyIn_done (by kernel_rfl) ?_ _
        exact ⟨fun k o hk ho hc => c4.same k o ((hB.block k (Array.getElem?_eq_some_iff.1 ho).1).trans ho) (by rcases hc with ⟨_, rfl⟩ | ⟨_, rfl⟩ <;> rfl), c6, c7, (hB0.trans (hB.mono hB0.size)).trans c5, by have e1 := c5.size; have e2 : W.heap.size ≤ W1.heap.size := hB.size; omega, acc ++ [s], r, f', _, c2, by rw [List.length_append, List.map_append]; exact c3, by rw [← List.drop_drop]; exact hc', by rw [List.append_assoc]; exact h8⟩
      · skip
        go_simp
        refine hK _ _ ?_
        clear hK K
        refine wpAnyIn_ready (rs := [0, 2]) (by kernel_rfl) (by simp) ?_
        refine AllReadyIn.cons rfl (fun K hK => ?_) (AllReadyIn.cons rfl (fun K hK => ?_) AllReadyIn.nil)
        · skip
          go_simp
          refine hK _ _ ?_
          clear hK K
          refine wpAnyIn_ready (rs := [2]) (by kernel_rfl) (by simp) ?_
          refine AllReadyIn.cons rfl (fun K hK => ?_) AllReadyIn.nil
          go_simp
          refine ⟨trivial, ?_⟩
          refine (CallsIn.inRound l (callsIn_wide.2 hcall)).mono ?_
          rintro e W1 ⟨rfl, hB, z1, z2, gg, cc, W2, hrun, d1, d2, c2, c3, c4, c5, c6, c7⟩
          dsimp only
          refine hK _ _ ?_
          clear hK K
          refine wpAnyIn_ready (rs := [3]) (by kernel_rfl) (by simp) ?_
          refine AllReadyIn.cons rfl (fun K hK => ?_) AllReadyIn.nil
          go_simp
          refine hK _ _ ?_
          clear hK K
          refine wpAnyIn_ready (rs := [4]) (by kernel_rfl) (by simp) ?_
          refine AllReadyIn.cons rfl (fun K hK => ?_) AllReadyIn.nil
          rw [if_pos (by kernel_rfl)]
          refine opIn_append (.tmp 13) (.tmp 16) 66 rfl hrun (hK _ _ ?_)
          clear hK K
          refine wpAnyIn_ready (rs := [5]) (by kernel_rfl) (by simp) ?_
          refine AllReadyIn.cons rfl (fun K hK => ?_) AllReadyIn.nil
          go_simp
          refine hK _ _ ?_
          clear hK K
          refine wpAnyIn_done (by kernel_rfl) ?_ _
          exact ⟨fun k o hk ho hc => c4.same k o ((hB.block k (Array.getElem?_eq_some_iff.1 ho).1).trans ho) (by rcases hc with ⟨_, rfl⟩ | ⟨_, rfl⟩ <;> rfl), c6, c7, (hB0.trans (hB.mono hB0.size)).trans c5, by have e1 := c5.size; have e2 : W.heap.size ≤ W1.heap.size := hB.size; omega, acc ++ [s], r, f', _, c2, by rw [List.length_append, List.map_append]; exact c3, by rw [← List.drop_drop]; exact hc', by rw [List.append_assoc]; exact h8⟩
        · skip
          go_simp
          refine ⟨trivial, ?_⟩
          refine (CallsIn.inRound l (callsIn_wide.2 hcall)).mono ?_
          rintro e W1 ⟨rfl, hB, z1, z2, gg, cc, W2, hrun, d1, d2, c2, c3, c4, c5, c6, c7⟩
          dsimp only
          refine hK _ _ ?_
          clear hK K
          refine wpAnyIn_ready (rs := [0, 3]) (by kernel_rfl) (by simp) ?_
          refine AllReadyIn.cons rfl (fun K hK => ?_) (AllReadyIn.cons rfl (fun K hK => ?_) AllReadyIn.nil)
          · skip
            go_simp
            refine hK _ _ ?_
            clear hK K
            refine wpAnyIn_ready (rs := [3]) (by kernel_rfl) (by simp) ?_
            refine AllReadyIn.cons rfl (fun K hK => ?_) AllReadyIn.nil
            go_simp
            refine hK _ _ ?_
            clear hK K
            refine wpAnyIn_ready (rs := [4]) (by kernel_rfl) (by simp) ?_
            refine AllReadyIn.cons rfl (fun K hK => ?_) AllReadyIn.nil
            rw [if_pos (by kernel_rfl)]
            refine opIn_append (.tmp 13) (.tmp 16) 66 rfl hrun (hK _ _ ?_)
            clear hK K
            refine wpAnyIn_ready (rs := [5]) (by kernel_rfl) (by simp) ?_
            refine AllReadyIn.cons rfl (fun K hK => ?_) AllReadyIn.nil
            go_simp
            refine hK _ _ ?_
            clear hK K
            refine wpAnyIn_done (by kernel_rfl) ?_ _
            exact ⟨fun k o hk ho hc => c4.same k o ((hB.block k (Array.getElem?_eq_some_iff.1 ho).1).trans ho) (by rcases hc with ⟨_, rfl⟩ | ⟨_, rfl⟩ <;> rfl), c6, c7, (hB0.trans (hB.mono hB0.size)).trans c5, by have e1 := c5.size; have e2 : W.heap.size ≤ W1.heap.size := hB.size; omega, acc ++ [s], r, f', _, c2, by rw [List.length_append, List.map_append]; exact c3, by rw [← List.drop_drop]; exact hc', by rw [List.append_assoc]; exact h8⟩
          · skip
            go_simp
            refine hK _ _ ?_
            clear hK K
            refine wpAnyIn_ready (rs := [0]) (by kernel_rfl) (by simp) ?_
            refine AllReadyIn.cons rfl (fun K hK => ?_) AllReadyIn.nil
            go_simp
            refine hK _ _ ?_
            clear hK K
            refine wpAnyIn_ready (rs := [4]) (by kernel_rfl) (by simp) ?_
            refine AllReadyIn.cons rfl (fun K hK => ?_) AllReadyIn.nil
            rw [if_pos (by kernel_rfl)]
            refine opIn_append (.tmp 13) (.tmp 16) 66 rfl hrun (hK _ _ ?_)
            clear hK K
            refine wpAnyIn_ready (rs := [5]) (by kernel_rfl) (by simp) ?_
            refine AllReadyIn.cons rfl (fun K hK => ?_) AllReadyIn.nil
            go_simp
            refine hK _ _ ?_
            clear hK K
            refine wpAnyIn_done (by kernel_rfl) ?_ _
            exact ⟨fun k o hk ho hc => c4.same k o ((hB.block k (Array.getElem?_eq_some_iff.1 ho).1).trans ho) (by rcases hc with ⟨_, rfl⟩ | ⟨_, rfl⟩ <;> rfl), c6, c7, (hB0.trans (hB.mono hB0.size)).trans c5, by have e1 := c5.size; have e2 : W.heap.size ≤ W1.heap.size := hB.size; omega, acc ++ [s], r, f', _, c2, by rw [List.length_append, List.map_append]; exact c3, by rw [← List.drop_drop]; exact hc', by rw [List.append_assoc]; exact h8⟩
theorem own_list {w w' : World} {e : TypeId} {ik : IntKind} {v : Value} {rs : List Int} {B : Nat} {F : Nat → Prop} (ho : w'.ownsRow B e 1 v rs.length (rs.map (Value.int ik))) (hF : ∀ b, B ≤ b → b < w'.heap.size → F b) : VRv w' F (.list (.int ik)) rs v := by
  have : VR w' F (.list (.int ik)) rs [v] := by
    rcases ho.2 with ⟨rfl, h0⟩ | ⟨g, cap, cur, rfl, hb, hg, hl, hm, hs, ht⟩
    · have : rs = [] := List.eq_nil_of_length_eq_zero h0
      subst this
      exact ⟨none, 0, rfl, Nat.le_refl _, Nat.zero_le _, fun i x hx => by simp at hx⟩
    · refine ⟨some ⟨g, 0, none⟩, cap, rfl, hl, hm, fun i x hx => ⟨g, 0, [.int ik x], rfl, hF g hb (Array.getElem?_eq_some_iff.1 hg).1, rfl, fun j u hu => ?_⟩⟩
      have hj : j = 0 := by
        have := (List.getElem?_eq_some_iff.1 hu).1
        simpa using this
      subst hj
      have hu' : Value.int ik x = u := by simpa using hu
      subst hu'
      have hi : i < rs.length := (List.getElem?_eq_some_iff.1 hx).1
      rw [cell_of_row w' g _ cur e (0, 0) hg]
      have h1 : (cur.toList.take (rs.length * 1))[i]? = some (Value.int ik x) := by rw [ht, List.getElem?_map, hx]; rfl
      rw [List.getElem?_take, if_pos (by omega)] at h1
      show cur[0 + i * 1 + 0]? = _
      rw [show 0 + i * 1 + 0 = i by omega]
      simpa using h1
  simpa [VRv, Ki.agg] using this
end Go.Proofs.YtlioalaehkohlaaDoor.Ck
