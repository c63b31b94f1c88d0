/- name.Check: what it answers. Conditions: as each theorem states them. -/
import Derived.Test.YtcnegcjjeakmmaaDoorN2
import Derived.Lib.OthersKept
namespace Go.Proofs.YtcnegcjjeakmmaaDoor.Nm
set_option linter.unusedVariables false
set_option linter.unusedSimpArgs false
open Go Go.RowKit Go.Shelf Go.Proofs Go.Lib
def scan (mayB : Int → Option Bool) : Nat → ByteArray → Nat → Option Bool
  | 0, _, _ => none
  | k + 1, s, pos => if pos < s.size then (mayB (Utf8.decode s pos).1).bind fun b => if b = true then scan mayB k s (pos + (Utf8.decode s pos).2) else some false else some true
def chk (partB : ByteArray → Option Bool) : Nat → ByteArray → Option Bool
  | 0, _ => none
  | k + 1, t => (partB (hd t)).bind fun b => if b = true then (if idx t < 0 then some true else chk partB k (tl t)) else some false
def checkN (mayB : Int → Option Bool) (partB : ByteArray → Option Bool) (k : Nat) (s : ByteArray) : Option Int :=
  if s.size = 0 ∨ 255 < s.size then some 40 else (scan mayB k s 0).bind fun b => if b = true then (chk partB k s).bind fun c => some (if c = true then 0 else 40) else some 40
theorem split_ok (s p : ByteArray) (w : World) : Calls Go.Proofs.Tryd.prog 66 #[.string s, .string p, .int .i64 0] w fun e w' =>
    e = .returned (.func (.func 67) #[] #[.pointer (some ⟨w.heap.size + 1, 0, none⟩), .pointer (some ⟨w.heap.size, 0, none⟩), .pointer (some ⟨w.heap.size + 2, 0, none⟩)]) ∧
    w' = ((w.alloc (.cells #[.string s] 9)).alloc (.cells #[.string p] 9)).alloc (.cells #[.int .i64 0] 3) := by
  go_enter Go.Proofs.Tryd.func66, Go.Proofs.Tryd.ntmps66
  go_wp2
  go_ret
  simp
theorem splitSeq_ok (s p : ByteArray) (w : World) : Calls Go.Proofs.Tryd.prog 63 #[.string s, .string p] w fun e w' =>
    e = .returned (.func (.func 67) #[] #[.pointer (some ⟨w.heap.size + 1, 0, none⟩), .pointer (some ⟨w.heap.size, 0, none⟩), .pointer (some ⟨w.heap.size + 2, 0, none⟩)]) ∧
    w' = ((w.alloc (.cells #[.string s] 9)).alloc (.cells #[.string p] 9)).alloc (.cells #[.int .i64 0] 3) := by
  go_enter Go.Proofs.Tryd.func63, Go.Proofs.Tryd.ntmps63
  go_wp2_with (go_at_call 66; refine (split_ok _ _ _).mono ?_; rintro e w' ⟨rfl, rfl⟩)
  go_ret
  exact ⟨rfl, rfl⟩
theorem res_ok {tm : Array Value} {W : World} {b : Nat} {v : Value} (ht : tm.getD 2 undef = .pointer (some ⟨b, 0, none⟩)) (hc : W.cell? ⟨b, 0, none⟩ = some v) : (results Go.Proofs.Tryd.f46 tm).run Go.Proofs.Tryd.prog W = .ok v W := by
  have h1 : (Go.Proofs.Tryd.f46).results = #[.cell 2 32] := rfl
  unfold results
  rw [h1]
  have ht' : tm[2]?.getD undef = .pointer (some ⟨b, 0, none⟩) := by rw [← Array.getD_eq_getD_getElem?]; exact ht
  simp [go_sem, ht', hc]
theorem below_put {B : Nat} {a W : World} (h : Below B a W) {k : Nat} (hk : B ≤ k) (o : Obj) : Below B a (W.putObj k o) := h.trans ⟨rfl, rfl, rfl, by simp [World.putObj], fun i hi => World.putObj_heap_other (by omega)⟩
attribute [local go_sem] Oper.semAt_some
theorem width_pos (s : ByteArray) (pos : Nat) (h : pos < s.size) : 1 ≤ (Utf8.decode s pos).2 := by
  by_cases ha : (s[pos]'h).toNat < 128
  · rw [decode_ascii s pos h ha]
    exact Nat.le_refl _
  · exact (decode_high s pos h (by omega)).2
theorem nil_size {s : ByteArray} (h : s.toList = []) : s.size = 0 := by
  rw [ByteArray.toList_eq] at h
  rw [Lib.size_eq, h]; rfl
theorem size_nil {s : ByteArray} (h : s.size = 0) : s.toList = [] := by
  rw [ByteArray.toList_eq]
  rw [Lib.size_eq] at h
  exact List.eq_nil_of_length_eq_zero h
theorem nil_of (s : ByteArray) : s.toList.isEmpty = true → s.size = 0 := fun h => nil_size (List.isEmpty_iff.1 h)
theorem bind_some' {α β : Type} {o : Option α} {f : α → Option β} {r : β} (h : o.bind f = some r) : ∃ x, o = some x ∧ f x = some r := by
  cases o with
  | none => cases h
  | some x => exact ⟨x, rfl, h⟩
/-- what the answer tells of its parts -/
theorem checkN_of {mayB : Int → Option Bool} {partB : ByteArray → Option Bool} {k : Nat} {s : ByteArray} {r : Int} (h : checkN mayB partB k s = some r) :
    ((s.size = 0 ∨ 255 < s.size) ∧ r = 40) ∨ (0 < s.size ∧ s.size ≤ 255 ∧ ∃ b, scan mayB k s 0 = some b ∧ ((b = false ∧ r = 40) ∨ (b = true ∧ ∃ c, chk partB k s = some c ∧ r = if c = true then 0 else 40))) := by
  unfold checkN at h
  split at h
  · rename_i hc
    cases h
    exact .inl ⟨hc, rfl⟩
  · rename_i hc
    obtain ⟨b, h1, h2⟩ := bind_some' h
    refine .inr ⟨by omega, by omega, b, h1, ?_⟩
    split at h2
    · rename_i hb
      obtain ⟨c, h3, h4⟩ := bind_some' h2
      exact .inr ⟨hb, c, h3, (Option.some.inj h4).symm⟩
    · rename_i hb
      cases h2
      exact .inl ⟨by simpa using hb, rfl⟩
theorem scan_of {mayB : Int → Option Bool} {k : Nat} {s : ByteArray} {pos : Nat} {b : Bool} (h : scan mayB k s pos = some b) :
    (¬ pos < s.size ∧ b = true) ∨ (pos < s.size ∧ ∃ b1, mayB (Utf8.decode s pos).1 = some b1 ∧ ((b1 = false ∧ b = false) ∨ (b1 = true ∧ ∃ k', scan mayB k' s (pos + (Utf8.decode s pos).2) = some b))) := by
  cases k with
  | zero => cases h
  | succ k =>
    unfold scan at h
    split at h
    · rename_i hp
      obtain ⟨b1, h1, h2⟩ := bind_some' h
      refine .inr ⟨hp, b1, h1, ?_⟩
      split at h2
      · rename_i hb; exact .inr ⟨hb, k, h2⟩
      · rename_i hb; cases h2; exact .inl ⟨by simpa using hb, rfl⟩
    · rename_i hp; cases h; exact .inl ⟨hp, rfl⟩
theorem chk_of {partB : ByteArray → Option Bool} {k : Nat} {t : ByteArray} {c : Bool} (h : chk partB k t = some c) :
    ∃ b, partB (hd t) = some b ∧ ((b = false ∧ c = false) ∨ (b = true ∧ ((idx t < 0 ∧ c = true) ∨ (0 ≤ idx t ∧ ∃ k', chk partB k' (tl t) = some c)))) := by
  cases k with
  | zero => cases h
  | succ k =>
    unfold chk at h
    obtain ⟨b, h1, h2⟩ := bind_some' h
    refine ⟨b, h1, ?_⟩
    split at h2
    · rename_i hb
      split at h2
      · rename_i hi; cases h2; exact .inr ⟨hb, .inl ⟨hi, rfl⟩⟩
      · rename_i hi; exact .inr ⟨hb, .inr ⟨by omega, k, h2⟩⟩
    · rename_i hb; cases h2; exact .inl ⟨by simpa using hb, rfl⟩
set_option maxHeartbeats 800000 in
theorem check_ok {mayB : Int → Option Bool} {partB : ByteArray → Option Bool} {w : World}
    (hmay : ∀ (r : Int) (b : Bool) (W : World), mayB r = some b → Below w.heap.size w W → Calls Go.Proofs.Tryd.prog 62 #[.int .i32 r] W fun e w' => e = .returned (.bool b) ∧ Below W.heap.size W w')
    (hpart : ∀ (t : ByteArray) (b : Bool) (W : World), partB t = some b → Below w.heap.size w W → Calls Go.Proofs.Tryd.prog 64 #[.string t] W fun e w' => e = .returned (.bool b) ∧ Below W.heap.size W w')
    {k : Nat} {s : ByteArray} {r : Int} (hr : checkN mayB partB k s = some r) : Calls Go.Proofs.Tryd.prog 46 #[.string s] w fun e w' => e = .returned (.int .i64 r) ∧ Below w.heap.size w w' := by
  refine (callsIn_wide (n := 5)).1 ?_
  refine callsIn_of_wp_marks Go.Proofs.Tryd.func46 rfl trivial ?_
  simp only [Go.Proofs.Tryd.ntmps46, List.size_toArray, List.length_cons, List.length_nil, Nat.reduceAdd, Nat.reduceSub, Array.replicate_succ, Array.replicate_zero, List.push_toArray, List.append_toArray, List.nil_append, List.cons_append]
  have hmem : ∀ v : Value, (w.alloc (.cells #[v] 32)).cell? ⟨w.heap.size, 0, none⟩ = some v := fun v => by simp
  gi_wp2
  · rename_i h0
    refine ⟨_, res_ok rfl (hmem _), ?_, (Below.refl _ w).alloc (Nat.le_refl _) _⟩
    rcases checkN_of hr with ⟨_, rfl⟩ | ⟨h1, _⟩
    · rfl
    · have := nil_size h0; omega
  · rename_i h0 h1
    refine ⟨_, res_ok rfl (hmem _), ?_, (Below.refl _ w).alloc (Nat.le_refl _) _⟩
    rcases checkN_of hr with ⟨_, rfl⟩ | ⟨h2, h3, _⟩
    · rfl
    · rcases h1 with h1 | h1
      · have := nil_of s h1; omega
      · omega
  · rename_i hA hB0 hK0 ha0
    simp only [hB0.1, Bool.false_or]
    have hs1 : 0 < s.size ∧ s.size ≤ 255 ∧ ∃ b, scan mayB k s 0 = some b ∧ ((b = false ∧ r = 40) ∨ (b = true ∧ ∃ c, chk partB k s = some c ∧ r = if c = true then 0 else 40)) := by
      rcases checkN_of hr with ⟨h2, _⟩ | h2
      · exfalso
        rcases h2 with h2 | h2
        · exact hA (size_nil h2)
        · have := hB0.2; omega
      · exact h2
    obtain ⟨hs0, hs255, b0, hb0, hend⟩ := hs1
    gi_loopw [] (fun wr => ∃ (pos k' : Nat), wr.heap[w.heap.size + 1]? = some (.stringIter s pos) ∧ Boxed wr w.heap.size 32 (.int .i64 0) ∧ Below w.heap.size w wr ∧ scan mayB k' s pos = some b0) (fun wr => s.size - wr.iterPos (w.heap.size + 1))
    case atStart =>
      refine ⟨0, k, ?_, ?_, ((Below.refl _ w).alloc (Nat.le_refl _) _).alloc (by simp) _, hb0⟩
      · have := World.iter_heap (w.alloc (.cells #[.int .i64 0] 32)) s 0
        simpa using this
      · exact (Boxed.new w 32 (.int .i64 0)).alloc _
    case round =>
      obtain ⟨pos, k', hit, hbx, hbw, hsc⟩ := hrel
      have hc0 := hbx.cell
      have hf0 := hbx.frozen
      have hsz : w.heap.size + 1 < wr.heap.size := (Array.getElem?_eq_some_iff.1 hit).1
      rcases scan_of hsc with ⟨hp, hbt⟩ | ⟨hp, b1, hm1, hm2⟩
      · have hnx : ∀ ty, (Instr.next (.pointer (some ⟨w.heap.size + 1, 0, none⟩)) true ty).run Go.Proofs.Tryd.prog wr = _ := fun ty => Lib.run_next_end_at wr (w.heap.size + 1) s pos ty hit hp
        have hsplit := splitSeq_ok s ⟨#[47]⟩ wr
        gi_wp2_with (refine ⟨trivial, ?_⟩; refine (callsIn_wide.2 hsplit).mono ?_; rintro e W1 ⟨rfl, rfl⟩)
        subst hbt
        obtain ⟨c, hc, hrc⟩ : ∃ c, chk partB k s = some c ∧ r = if c = true then 0 else 40 := by
          rcases hend with ⟨h, _⟩ | ⟨_, h⟩
          · cases h
          · exact h
        refine range_split (n := 5) (by omega) (Bs := wr.heap.size) (Bp := wr.heap.size + 1) (Bv := wr.heap.size + 2) (by simp only [World.size_alloc]; omega) (by simp only [World.size_alloc]; omega) rfl
          (fun t W => Boxed W wr.heap.size 9 (.string t) ∧ Boxed W (wr.heap.size + 1) 9 (.string ⟨#[47]⟩) ∧ Boxed W (wr.heap.size + 2) 3 (.int .i64 0) ∧ t.size ≤ 1000 ∧ Boxed W w.heap.size 32 (.int .i64 0) ∧ Below w.heap.size w W ∧ ∃ k', chk partB k' t = some c)
          (fun W => Boxed W w.heap.size 32 (.int .i64 0) ∧ Below w.heap.size w W ∧ c = true)
          (fun W => Boxed W w.heap.size 32 (.int .i64 40) ∧ Below w.heap.size w W ∧ c = false)
          (fun t W h => ⟨h.1, h.2.1, h.2.2.1, h.2.2.2.1⟩) ?ia ?ip ?idp ?ixp
          (fun x => { tmps := #[.string s, undef, .pointer (some ⟨w.heap.size, 0, none⟩), undef, u4, .string x, .string s, .bool false, .bool false, .string s, .int .i64 s.size, .bool (decide ((255 : Int) < s.size)), .bool (decide ((255 : Int) < s.size)), .string s, .pointer (some ⟨w.heap.size + 1, 0, none⟩), .tuple #[.bool false], .bool false, u17, u18, u19, u20, .string s, .func (.func 67) #[] #[.pointer (some ⟨wr.heap.size + 1, 0, none⟩), .pointer (some ⟨wr.heap.size, 0, none⟩), .pointer (some ⟨wr.heap.size + 2, 0, none⟩)], .string x, undef, undef, undef], defers := [] }) ?assign ?body ?done ?stop (t0 := s) ?start
        case assign =>
          intro l x W K hK
          gi_wp2
          exact hK
        case ia =>
          rintro t W o ⟨h1, h2, h3, h4, h5, h6, h7⟩ hle
          exact ⟨h1.alloc _, h2.alloc _, h3.alloc _, h4, h5.alloc _, h6.alloc (by simp at hle; omega) _, h7⟩
        case ip =>
          rintro t W k o hk ⟨h1, h2, h3, h4, h5, h6, h7⟩
          simp at hk
          exact ⟨boxed_put h1 _ (by omega), boxed_put h2 _ (by omega), boxed_put h3 _ (by omega), h4, boxed_put h5 _ (by omega), below_put h6 (by omega) _, h7⟩
        case idp =>
          rintro W k o hk ⟨h5, h6, h7⟩
          simp at hk
          exact ⟨boxed_put h5 _ (by omega), below_put h6 (by omega) _, h7⟩
        case ixp =>
          rintro W k o hk ⟨h5, h6, h7⟩
          simp at hk
          exact ⟨boxed_put h5 _ (by omega), below_put h6 (by omega) _, h7⟩
        case start =>
          refine ⟨((Boxed.new wr 9 (.string s)).alloc _).alloc _, ?_, ?_, by omega, ((hbx.alloc _).alloc _).alloc _, ?_, k, hc⟩
          · have := (Boxed.new (wr.alloc (.cells #[.string s] 9)) 9 (.string ⟨#[47]⟩)).alloc (.cells #[.int .i64 0] 3)
            simpa using this
          · have := Boxed.new ((wr.alloc (.cells #[.string s] 9)).alloc (.cells #[.string ⟨#[47]⟩] 9)) 3 (.int .i64 0)
            simpa using this
          · exact ((hbw.alloc (by omega) _).alloc (by simp; omega) _).alloc (by simp; omega) _
        case done =>
          rintro D W hD ⟨h5, h6, h7⟩ hK
          simp at hD
          have h5c := h5.cell
          have h5f := h5.frozen
          gi_wp2
          refine ⟨by simp, .inl ⟨_, _, rfl, run_takeDeferred ((grownBy_other _ _ (by omega)).trans hK), _, res_ok rfl (boxed_put (h5.set _) _ (by omega)).cell, ?_, ?_⟩⟩
          · first | rfl | (rw [hrc, h7]; rfl)
          · exact below_put (h6.setCell (p := ⟨w.heap.size, 0, none⟩) (Nat.le_refl _) _) (by omega) _
        case stop =>
          rintro D W hD ⟨h5, h6, h7⟩ hK
          simp at hD
          gi_wp2
          refine ⟨by simp, .inl ⟨_, _, rfl, run_takeDeferred hK, _, res_ok rfl (boxed_put h5 _ (by omega)).cell, ?_, ?_⟩⟩
          · first | rfl | (rw [hrc, h7]; rfl)
          · exact below_put h6 (by omega) _
        case body =>
          rintro l t W ⟨h1, h2, h3, h4, h5, h6, k', h7⟩
          obtain ⟨b, hb1, hb2⟩ := chk_of h7
          rcases hb2 with ⟨rfl, rfl⟩ | ⟨rfl, hb2⟩
          · have hcall := hpart _ false W hb1 h6
            gi_wp2_with (refine ⟨trivial, ?_⟩; refine (CallsIn.inRound l (callsIn_wide.2 hcall)).mono ?_; rintro e W1 ⟨rfl, hB⟩; have hbx3 : Boxed W1 w.heap.size 32 (.int .i64 0) := (hB.block _ h5.lt).trans h5; have hc3 := hbx3.cell; have hf3 := hbx3.frozen)
            have hBw : Below w.heap.size w W1 := h6.trans (hB.mono h6.size)
            refine ⟨fun k o hk ho _ => (grownBy_other _ _ (by omega)).trans ((hB.block _ (Array.getElem?_eq_some_iff.1 ho).1).trans ho), hbx3.set _, ?_⟩
            exact hBw.setCell (p := ⟨w.heap.size, 0, none⟩) (Nat.le_refl _) _
          · have hcall := hpart _ true W hb1 h6
            gi_wp2_with (refine ⟨trivial, ?_⟩; refine (CallsIn.inRound l (callsIn_wide.2 hcall)).mono ?_; rintro e W1 ⟨rfl, hB⟩)
            have hBw : Below w.heap.size w W1 := h6.trans (hB.mono h6.size)
            have kp : ∀ {B t : Nat} {v : Value}, Boxed W B t v → Boxed W1 B t v := fun hb => (hB.block _ hb.lt).trans hb
            refine ⟨fun k o hk ho _ => (hB.block _ (Array.getElem?_eq_some_iff.1 ho).1).trans ho, fun hi => ⟨kp h5, hBw, ?_⟩, fun hi k o hk => ⟨⟨(boxed_put (kp h1) _ (by omega)).set _, (grownBy_other _ _ (by omega)).trans (boxed_put (kp h2) _ (by omega)), (grownBy_other _ _ (by omega)).trans (boxed_put (kp h3) _ (by omega)), ?_, (grownBy_other _ _ (by omega)).trans (boxed_put (kp h5) _ (by omega)), ?_, ?_⟩, kp h1, kp h2⟩⟩
            · rcases hb2 with ⟨_, h⟩ | ⟨h, _⟩
              · exact h
              · omega
            · unfold tl; rw [ByteArray.size_extract]; omega
            · exact (below_put hBw (by omega) _).setCell (p := ⟨wr.heap.size, 0, none⟩) (by show w.heap.size ≤ wr.heap.size; omega) _
            · rcases hb2 with ⟨h, _⟩ | ⟨_, h⟩
              · omega
              · exact h
      · have hnx : ∀ ty, (Instr.next (.pointer (some ⟨w.heap.size + 1, 0, none⟩)) true ty).run Go.Proofs.Tryd.prog wr = _ := fun ty => Lib.run_next_any_at wr (w.heap.size + 1) s pos ty hit hp
        have hwd := width_pos s pos hp
        have hit2 := Lib.iterAt_heap wr (w.heap.size + 1) s pos (pos + (Utf8.decode s pos).2) hit
        have hbw2 := Lib.below_iterAt hbw (k := w.heap.size + 1) (by omega) s (pos + (Utf8.decode s pos).2)
        have hbx2 : Boxed (wr.iterAt (w.heap.size + 1) s (pos + (Utf8.decode s pos).2)) w.heap.size 32 (.int .i64 0) := (Lib.iterAt_other _ _ _ _ _ (by omega)).trans hbx
        rcases hm2 with ⟨rfl, rfl⟩ | ⟨rfl, k2, hk2⟩
        · have hcall := hmay _ false _ hm1 hbw2
          gi_wp2_with (refine ⟨trivial, ?_⟩; refine (callsIn_wide.2 hcall).mono ?_; rintro e W1 ⟨rfl, hB⟩; have hbx3 : Boxed W1 w.heap.size 32 (.int .i64 0) := (hB.block _ hbx2.lt).trans hbx2; have hc3 := hbx3.cell; have hf3 := hbx3.frozen)
          have hr40 : r = 40 := by
            rcases hend with ⟨_, h⟩ | ⟨h, _⟩
            · exact h
            · cases h
          refine ⟨_, res_ok rfl (hbx3.set _).cell, by rw [hr40], ?_⟩
          exact (hbw2.trans (hB.mono (by rw [Lib.iterAt_size]; omega))).setCell (p := ⟨w.heap.size, 0, none⟩) (Nat.le_refl _) _
        · have hcall := hmay _ true _ hm1 hbw2
          gi_wp2_with (refine ⟨trivial, ?_⟩; refine (callsIn_wide.2 hcall).mono ?_; rintro e W1 ⟨rfl, hB⟩)
          have hit3 : W1.heap[w.heap.size + 1]? = some (.stringIter s (pos + (Utf8.decode s pos).2)) := (hB.block _ (Array.getElem?_eq_some_iff.1 hit2).1).trans hit2
          go_roundw
          case rel =>
            exact ⟨_, k2, hit3, (hB.block _ hbx2.lt).trans hbx2, hbw2.trans (hB.mono (by rw [Lib.iterAt_size]; omega)), hk2⟩
          case measure =>
            simp only [World.iterPos, hit3, hit]
            omega
end Go.Proofs.YtcnegcjjeakmmaaDoor.Nm
