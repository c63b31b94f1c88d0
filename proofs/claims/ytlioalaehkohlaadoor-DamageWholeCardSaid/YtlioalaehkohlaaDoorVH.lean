/- Between the machine's word and a plain contract. Conditions: as each theorem states them. -/
import Derived.Test.YtlioalaehkohlaaDoorVO
namespace Go.Proofs.YtlioalaehkohlaaDoor.Vm
open Go Go.RowKit
set_option linter.unusedVariables false
set_option linter.unusedSimpArgs false
section
variable {P : Program}
theorem val_calls {G : List (Nat × GV)} {f : FuncId} {d : Den} (hsat : Sat P G f d) {ks : List Ki} (hlin : d.lin = valsLin ks 0) {W : World} (hgl : ∀ g v, look G g = some v → g < W.heap.size ∧ ∀ i x, v.xs[i]? = some x → ∃ ds, VR W (fun b => b < W.heap.size) v.k x ds ∧ CellsAt W g (i * v.k.sz) ds)
    {vs : List Value} {x : CSs.den (valsLin ks 0)} (hx : ValsAt W (fun b => b < W.heap.size) ks 0 x vs) {t : Nat} (hout : d.lout = [(t, .v .bool)]) (hres : d.res = [t]) {r : d.A} (hr : d.f (hlin ▸ x) = some r) :
    Calls P f vs.toArray W (fun e w' => e = .returned (.bool (hout ▸ d.out r : CSs.den [(t, CS.v .bool)]).1) ∧ Below W.heap.size W w') := by
  obtain ⟨lin, lout, res, mt, A, fd, out⟩ := d
  simp only at hlin hout hres
  subst hlin; subst hout; subst hres
  have hlen : vs.length = ks.length := by
    clear hr hgl hsat
    revert vs
    have : ∀ (ks : List Ki) (i : Nat) (x : CSs.den (valsLin ks i)) (vs : List Value), ValsAt W (fun b => b < W.heap.size) ks i x vs → vs.length = ks.length := by
      intro ks
      induction ks with
      | nil => intro i x vs h; rw [show vs = [] from h]; rfl
      | cons k ks ih =>
        intro i x vs h
        obtain ⟨v, us, rfl, _, h2⟩ := h
        exact congrArg (· + 1) (ih (i + 1) x.2 us h2)
    exact fun {vs} h => this ks 0 x vs h
  have hobs := vals_obs ks 0 x 0
  have hF : ∀ b, b < W.heap.size → Env.F (callCtx P W (fun b => b < W.heap.size) (fun _ => False) G ⟨vs.length, []⟩ noAg) ⟨fun _ => none, fun _ => .slice none 0 0, fun _ => 0, W, fun _ => False⟩ b := fun b hb => ⟨rfl, .inl hb, hb⟩
  refine (hsat.1 W (fun b => b < W.heap.size) (fun _ => False) vs ⟨fun _ => none, fun _ => .slice none 0 0, fun _ => 0, W, fun _ => False⟩ x r (by rw [hlen]; exact (valsLin_len ks 0).symm) rfl {
    slots := fun t => by
      show SLR _ _ (match look (canL (valsLin ks 0) x 0).1 t with | some s => s | none => .one .undef) _
      cases hl : look (canL (valsLin ks 0) x 0).1 t with
      | none => trivial
      | some s =>
        obtain ⟨_, k, z, rfl, h3⟩ := vals_slot ks 0 x vs 0 hx t s hl
        have hv : vs.toArray.getD t undef = vs.getD t undef := by rw [Array.getD_eq_getD_getElem?, List.getD_eq_getElem?_getD, List.getElem?_toArray]
        show VRv _ _ k z (vs.toArray.getD t undef)
        rw [hv]
        exact VRv.mono (fun b hb => ⟨hF b hb, rfl⟩) h3
    rows := fun id r' hr' => by have := canon_row hr'; rw [hobs] at this; simp at this
    boxes := fun id r' hr' => by have := canon_box hr'; rw [hobs] at this; simp at this
    nests := fun id r' hr' => by have := canon_nest hr'; rw [hobs] at this; simp at this
    idn := fun id r' hr' => by have := canon_nest hr'; rw [hobs] at this; simp at this
    ownlt := fun b o ho => by cases ho
    keep := ⟨rfl, rfl, rfl, Nat.le_refl _, fun _ _ _ => rfl⟩
    size := by show (List.toArray vs).size = vs.length; simp
    arg := fun t ht => by cases (show false = true from ht)
    defers := rfl
    idr := fun id r' hr' => by have := canon_row hr'; rw [hobs] at this; simp at this
    idb := fun id r' hr' => by have := canon_box hr'; rw [hobs] at this; simp at this
    glob := fun g v hv => by
      obtain ⟨h1, h2⟩ := hgl g v hv
      refine ⟨hF g h1, fun i y hy => ?_⟩
      obtain ⟨ds, h3, h4⟩ := h2 i y hy
      exact ⟨ds, h3.mono (fun b hb => ⟨hF b hb, rfl⟩), h4⟩ } (fun id hid => hid.elim) hr).mono ?_
  rintro e w' ⟨v, us, E', rfl, rfl, rfl, h4, h5, h6⟩
  have h7 := h4.slots t
  have h8 : VRv E'.w (E'.F (callCtx P W (fun b => b < W.heap.size) (fun _ => False) G ⟨us.length, []⟩ noAg)) .bool (out r).1 (us.toArray.getD t undef) := by
    have h9 : (canon [(t, CS.v .bool)] (out r)).sl t = .one (.val .bool (out r).1) := by
      show (match look (canL [(t, CS.v .bool)] (out r) 0).1 t with | some s => s | none => .one .undef) = _
      have : look (canL [(t, CS.v .bool)] (out r) 0).1 t = some (.one (.val .bool (out r).1)) := by
        show look [(t, SL.one (.val .bool (out r).1))] t = _
        unfold look
        simp
      rw [this]
    rw [h9] at h7
    exact h7
  have h10 := VRv.bool h8
  have hv : us.toArray.getD t undef = us.getD t undef := by rw [Array.getD_eq_getD_getElem?, List.getD_eq_getElem?_getD, List.getElem?_toArray]
  refine ⟨?_, ?_⟩
  · show Ending.returned (outV [us.getD t undef]) = _
    rw [← hv, h10]
    rfl
  · exact ⟨h4.keep.os, h4.keep.tape, h4.keep.output, h4.keep.size, fun b hb => h4.keep.block b hb (fun h => h)⟩
theorem val_callsK {G : List (Nat × GV)} {f : FuncId} {d : Den} (hsat : Sat P G f d) {ks : List Ki} (hlin : d.lin = valsLin ks 0) {W : World} (hgl : ∀ g v, look G g = some v → g < W.heap.size ∧ ∀ i x, v.xs[i]? = some x → ∃ ds, VR W (fun b => b < W.heap.size) v.k x ds ∧ CellsAt W g (i * v.k.sz) ds)
    {vs : List Value} {x : CSs.den (valsLin ks 0)} (hx : ValsAt W (fun b => b < W.heap.size) ks 0 x vs) {t : Nat} {k : Ki} (hout : d.lout = [(t, .v k)]) (hres : d.res = [t]) {r : d.A} (hr : d.f (hlin ▸ x) = some r) :
    Calls P f vs.toArray W (fun e w' => ∃ v, e = .returned v ∧ VRv w' (fun b => b < w'.heap.size) k (hout ▸ d.out r : CSs.den [(t, CS.v k)]).1 v ∧ Below W.heap.size W w') := by
  obtain ⟨lin, lout, res, mt, A, fd, out⟩ := d
  simp only at hlin hout hres
  subst hlin; subst hout; subst hres
  have hlen : vs.length = ks.length := by
    clear hr hgl hsat
    revert vs
    have : ∀ (ks : List Ki) (i : Nat) (x : CSs.den (valsLin ks i)) (vs : List Value), ValsAt W (fun b => b < W.heap.size) ks i x vs → vs.length = ks.length := by
      intro ks
      induction ks with
      | nil => intro i x vs h; rw [show vs = [] from h]; rfl
      | cons k ks ih =>
        intro i x vs h
        obtain ⟨v, us, rfl, _, h2⟩ := h
        exact congrArg (· + 1) (ih (i + 1) x.2 us h2)
    exact fun {vs} h => this ks 0 x vs h
  have hobs := vals_obs ks 0 x 0
  have hF : ∀ b, b < W.heap.size → Env.F (callCtx P W (fun b => b < W.heap.size) (fun _ => False) G ⟨vs.length, []⟩ noAg) ⟨fun _ => none, fun _ => .slice none 0 0, fun _ => 0, W, fun _ => False⟩ b := fun b hb => ⟨rfl, .inl hb, hb⟩
  refine (hsat.1 W (fun b => b < W.heap.size) (fun _ => False) vs ⟨fun _ => none, fun _ => .slice none 0 0, fun _ => 0, W, fun _ => False⟩ x r (by rw [hlen]; exact (valsLin_len ks 0).symm) rfl {
    slots := fun t => by
      show SLR _ _ (match look (canL (valsLin ks 0) x 0).1 t with | some s => s | none => .one .undef) _
      cases hl : look (canL (valsLin ks 0) x 0).1 t with
      | none => trivial
      | some s =>
        obtain ⟨_, k, z, rfl, h3⟩ := vals_slot ks 0 x vs 0 hx t s hl
        have hv : vs.toArray.getD t undef = vs.getD t undef := by rw [Array.getD_eq_getD_getElem?, List.getD_eq_getElem?_getD, List.getElem?_toArray]
        show VRv _ _ k z (vs.toArray.getD t undef)
        rw [hv]
        exact VRv.mono (fun b hb => ⟨hF b hb, rfl⟩) h3
    rows := fun id r' hr' => by have := canon_row hr'; rw [hobs] at this; simp at this
    boxes := fun id r' hr' => by have := canon_box hr'; rw [hobs] at this; simp at this
    nests := fun id r' hr' => by have := canon_nest hr'; rw [hobs] at this; simp at this
    idn := fun id r' hr' => by have := canon_nest hr'; rw [hobs] at this; simp at this
    ownlt := fun b o ho => by cases ho
    keep := ⟨rfl, rfl, rfl, Nat.le_refl _, fun _ _ _ => rfl⟩
    size := by show (List.toArray vs).size = vs.length; simp
    arg := fun t ht => by cases (show false = true from ht)
    defers := rfl
    idr := fun id r' hr' => by have := canon_row hr'; rw [hobs] at this; simp at this
    idb := fun id r' hr' => by have := canon_box hr'; rw [hobs] at this; simp at this
    glob := fun g v hv => by
      obtain ⟨h1, h2⟩ := hgl g v hv
      refine ⟨hF g h1, fun i y hy => ?_⟩
      obtain ⟨ds, h3, h4⟩ := h2 i y hy
      exact ⟨ds, h3.mono (fun b hb => ⟨hF b hb, rfl⟩), h4⟩ } (fun id hid => hid.elim) hr).mono ?_
  rintro e w' ⟨v, us, E', rfl, rfl, rfl, h4, h5, h6⟩
  have h7 := h4.slots t
  have h8 : VRv E'.w (E'.F (callCtx P W (fun b => b < W.heap.size) (fun _ => False) G ⟨us.length, []⟩ noAg)) k (out r).1 (us.toArray.getD t undef) := by
    have h9 : (canon [(t, CS.v k)] (out r)).sl t = .one (.val k (out r).1) := by
      show (match look (canL [(t, CS.v k)] (out r) 0).1 t with | some s => s | none => .one .undef) = _
      have : look (canL [(t, CS.v k)] (out r) 0).1 t = some (.one (.val k (out r).1)) := by
        show look [(t, SL.one (.val k (out r).1))] t = _
        unfold look
        simp
      rw [this]
    rw [h9] at h7
    exact h7
  have hv : us.toArray.getD t undef = us.getD t undef := by rw [Array.getD_eq_getD_getElem?, List.getD_eq_getElem?_getD, List.getElem?_toArray]
  rw [hv] at h8
  exact ⟨us.getD t undef, rfl, h8.mono (fun b hb => ⟨hb.2.2, rfl⟩), ⟨h4.keep.os, h4.keep.tape, h4.keep.output, h4.keep.size, fun b hb => h4.keep.block b hb (fun h => h)⟩⟩
def TabsAt (G : List (Nat × GV)) (W : World) : Prop := ∀ g v, look G g = some v → g < W.heap.size ∧ ∀ i x, v.xs[i]? = some x → ∃ ds, VR W (fun b => b < W.heap.size) v.k x ds ∧ CellsAt W g (i * v.k.sz) ds
theorem TabsAt.below {G : List (Nat × GV)} {W W' : World} (h : TabsAt G W) (hb : Below W.heap.size W W') : TabsAt G W' := fun g v hv => by
  obtain ⟨h1, h2⟩ := h g v hv
  refine ⟨Nat.lt_of_lt_of_le h1 hb.size, fun i x hx => ?_⟩
  obtain ⟨ds, h3, h4⟩ := h2 i x hx
  exact ⟨ds, h3.mono (fun b hb' => ⟨Nat.lt_of_lt_of_le hb' hb.size, hb.block b hb'⟩), h4.mono (hb.block g h1)⟩
/-- A function of a string that answers with a number, by a contract of its own. -/
theorem sat_str_int {G : List (Nat × GV)} {f : FuncId} {fn : Func} (hf : P.funcs[f]? = some fn) (hb : fn.body.isSome = true) (hname : (fn.name == "runtime.NumGoroutine") = false) {ik : IntKind} {t : Nat} {F0 : ByteArray → Option Int}
    (h : ∀ (W : World) (s : ByteArray) (r : Int), TabsAt G W → F0 s = some r → Calls P f #[.string s] W (fun e w' => e = .returned (.int ik r) ∧ Below W.heap.size W w')) :
    Sat P G f ⟨[(0, .v .str)], [(t, .v (.int ik))], [t], [], CSs.den [(t, CS.v (.int ik))], fun x => (F0 x.1).bind fun r => some (r, ()), id⟩ := by
  refine ⟨fun w F own vs E x ra hvl hw hrel hlive hx => ?_, fn, hf, hb, hname⟩
  subst hw
  match vs, hvl with
  | [v0], _ =>
  have hs : VRv E.w (E.F (callCtx P E.w F own G ⟨1, []⟩ noAg)) .str x.1 v0 := hrel.slots 0
  have hv0 : v0 = .string x.1 := VRv.str hs
  subst hv0
  obtain ⟨r, hr1, hr2⟩ : ∃ r, F0 x.1 = some r ∧ ra = (r, ()) := by
    have hx' : (F0 x.1).bind (fun r => some (r, ())) = some ra := hx
    cases hc : F0 x.1 with
    | none => rw [hc] at hx'; cases hx'
    | some r => rw [hc] at hx'; exact ⟨r, rfl, (Option.some.inj hx').symm⟩
  subst hr2
  have hFlt : ∀ b, E.F (callCtx P E.w F own G ⟨1, []⟩ noAg) b → b < E.w.heap.size := fun b hb => hb.2.2
  have htab : TabsAt G E.w := fun g v hv => by
    obtain ⟨h1, h2⟩ := hrel.glob g v hv
    refine ⟨hFlt g h1, fun i y hy => ?_⟩
    obtain ⟨ds, h3, h4⟩ := h2 i y hy
    exact ⟨ds, h3.mono (fun b hb => ⟨hFlt b hb, rfl⟩), h4⟩
  refine (h E.w x.1 r htab hr1).mono ?_
  rintro e w' ⟨rfl, hB⟩
  obtain ⟨us, hus⟩ : ∃ us : List Value, us = List.replicate (t + 1) (.int ik r) := ⟨_, rfl⟩
  have hut : us.getD t undef = .int ik r := by rw [hus]; simp [List.getD_eq_getElem?_getD, List.getElem?_replicate]
  have hut' : us.toArray.getD t undef = .int ik r := by rw [← hut, Array.getD_eq_getD_getElem?, List.getD_eq_getElem?_getD, List.getElem?_toArray]
  refine ⟨_, us, ⟨fun b => none, fun _ => .slice none 0 0, fun _ => 0, w', fun j => False⟩, rfl, rfl, by show Value.int ik r = outV [us.getD t undef]; rw [hut]; rfl, ?_, fun id hid => hid.elim, fun j i => ⟨fun h => ?_, fun h => ?_⟩⟩
  · have hF2 : ∀ b, E.F (callCtx P E.w F own G ⟨1, []⟩ noAg) b → Env.F (callCtx P E.w F own G ⟨us.length, []⟩ noAg) ⟨fun b => none, fun _ => .slice none 0 0, fun _ => 0, w', fun j => False⟩ b ∧ w'.heap[b]? = E.w.heap[b]? := fun b hb => ⟨⟨rfl, hb.2.1, Nat.lt_of_lt_of_le hb.2.2 hB.size⟩, hB.block b hb.2.2⟩
    refine {
      slots := fun u => ?_
      rows := fun id r' hr' => by have := canon_row hr'; simp [canL, csV] at this
      boxes := fun id b hb => by have := canon_box hb; simp [canL, csV] at this
      nests := fun id r' hr' => by have := canon_nest hr'; simp [canL, csV] at this
      idn := fun id r' hr' => by have := canon_nest hr'; simp [canL, csV] at this
      ownlt := fun b o ho => by cases ho
      keep := ⟨hB.os, hB.tape, hB.output, hB.size, fun b hb _ => hB.block b hb⟩
      size := by show (List.toArray us).size = us.length; simp
      arg := fun t ht => by cases (show false = true from ht)
      defers := rfl
      idr := fun id r' hr' => by have := canon_row hr'; simp [canL, csV] at this
      idb := fun id b hb => by have := canon_box hb; simp [canL, csV] at this
      glob := fun g v hv => by
        obtain ⟨e1, e2⟩ := hrel.glob g v hv
        refine ⟨(hF2 g e1).1, fun i y hy => ?_⟩
        obtain ⟨ds, f1, f2⟩ := e2 i y hy
        exact ⟨ds, f1.mono hF2, f2.mono (hF2 g e1).2⟩ }
    show SLR _ _ (match look [(t, SL.one (.val (.int ik) r))] u with | some s => s | none => .one .undef) _
    unfold look
    cases hb : Nat.beq t u with
    | false => trivial
    | true =>
      have := Nat.eq_of_beq_eq_true hb
      subst this
      show VRv w' (Env.F (callCtx P E.w F own G ⟨us.length, []⟩ noAg) ⟨fun b => none, fun _ => .slice none 0 0, fun _ => 0, w', fun j => False⟩) (.int ik) r (us.toArray.getD t undef)
      rw [hut']
      exact VRv.of_int _ _ ik r
  · simp [mtAt] at h
  · simp [mtAt] at h
theorem vals_at {w : World} {F : Nat → Prop} : ∀ (ks : List Ki) (i : Nat) (x : CSs.den (valsLin ks i)) (vs : List Value) (m : Nat), vs.length = ks.length → (∀ (j : Nat) (k : Ki) (z : k.den), look (canL (valsLin ks i) x m).1 (i + j) = some (.one (.val k z)) → VRv w F k z (vs.getD j undef)) → ValsAt w F ks i x vs
  | [], _, _, vs, _, hl, _ => List.eq_nil_of_length_eq_zero hl
  | k :: ks, i, x, [], _, hl, _ => by cases hl
  | k :: ks, i, x, v :: vs, m, hl, h => by
    refine ⟨v, vs, rfl, ?_, vals_at ks (i + 1) x.2 vs (m + 0) (by simpa using hl) (fun j k' z hz => ?_)⟩
    · have := h 0 k x.1 (by
        show look ((i, SL.one (.val k x.1)) :: (canL (valsLin ks (i + 1)) x.2 (m + 0)).1) (i + 0) = _
        unfold look
        simp)
      simpa using this
    · have := h (j + 1) k' z (by
        show look ((i, SL.one (.val k x.1)) :: (canL (valsLin ks (i + 1)) x.2 (m + 0)).1) (i + (j + 1)) = _
        unfold look
        have hb : Nat.beq i (i + (j + 1)) = false := by cases hb : Nat.beq i (i + (j + 1)) <;> first | rfl | exact absurd (Nat.eq_of_beq_eq_true hb) (by omega)
        rw [hb, show i + (j + 1) = i + 1 + j by omega]
        exact hz)
      simpa using this
/-- A function of values that answers with a value, by a contract of its own. -/
theorem sat_vals {G : List (Nat × GV)} {f : FuncId} {fn : Func} (hf : P.funcs[f]? = some fn) (hb : fn.body.isSome = true) (hname : (fn.name == "runtime.NumGoroutine") = false) {ks : List Ki} {k : Ki} {t : Nat} {F0 : CSs.den (valsLin ks 0) → Option k.den}
    (h : ∀ (W : World) (F : Nat → Prop) (x : CSs.den (valsLin ks 0)) (vs : List Value) (r : k.den), TabsAt G W → (∀ b, F b → b < W.heap.size) → ValsAt W F ks 0 x vs → F0 x = some r → Calls P f vs.toArray W (fun e w' => ∃ v, e = .returned v ∧ VRv w' (fun b => F b ∨ (W.heap.size ≤ b ∧ b < w'.heap.size)) k r v ∧ Below W.heap.size W w')) :
    Sat P G f ⟨valsLin ks 0, [(t, .v k)], [t], [], CSs.den [(t, CS.v k)], fun x => (F0 x).bind fun r => some (r, ()), id⟩ := by
  refine ⟨fun w F own vs E x ra hvl hw hrel hlive hx => ?_, fn, hf, hb, hname⟩
  subst hw
  have hlen : vs.length = ks.length := hvl.trans (valsLin_len ks 0)
  obtain ⟨r, hr1, hr2⟩ : ∃ r, F0 x = some r ∧ ra = (r, ()) := by
    have hx' : (F0 x).bind (fun r => some (r, ())) = some ra := hx
    cases hc : F0 x with
    | none => rw [hc] at hx'; cases hx'
    | some r => rw [hc] at hx'; exact ⟨r, rfl, (Option.some.inj hx').symm⟩
  subst hr2
  have hFlt : ∀ b, E.F (callCtx P E.w F own G ⟨vs.length, []⟩ noAg) b → b < E.w.heap.size := fun b hb => hb.2.2
  have htab : TabsAt G E.w := fun g v hv => by
    obtain ⟨h1, h2⟩ := hrel.glob g v hv
    refine ⟨hFlt g h1, fun i y hy => ?_⟩
    obtain ⟨ds, h3, h4⟩ := h2 i y hy
    exact ⟨ds, h3.mono (fun b hb => ⟨hFlt b hb, rfl⟩), h4⟩
  have hva : ValsAt E.w (E.F (callCtx P E.w F own G ⟨vs.length, []⟩ noAg)) ks 0 x vs := vals_at ks 0 x vs 0 hlen (fun j k' z hz => by
    have h7 := hrel.slots j
    have h9 : (canon (valsLin ks 0) x).sl j = .one (.val k' z) := by
      show (match look (canL (valsLin ks 0) x 0).1 j with | some s => s | none => .one .undef) = _
      rw [show look (canL (valsLin ks 0) x 0).1 j = some (.one (.val k' z)) by have := hz; rwa [Nat.zero_add] at this]
    rw [h9] at h7
    have hv : vs.toArray.getD j undef = vs.getD j undef := by rw [Array.getD_eq_getD_getElem?, List.getD_eq_getElem?_getD, List.getElem?_toArray]
    rw [← hv]; exact h7)
  refine (h E.w _ x vs r htab hFlt hva hr1).mono ?_
  rintro e w' ⟨v, rfl, hvr, hB⟩
  obtain ⟨us, hus⟩ : ∃ us : List Value, us = List.replicate (t + 1) v := ⟨_, rfl⟩
  have hut : us.getD t undef = v := by rw [hus]; simp [List.getD_eq_getElem?_getD, List.getElem?_replicate]
  have hut' : us.toArray.getD t undef = v := by rw [← hut, Array.getD_eq_getD_getElem?, List.getD_eq_getElem?_getD, List.getElem?_toArray]
  refine ⟨_, us, ⟨fun b => none, fun _ => .slice none 0 0, fun _ => 0, w', fun j => False⟩, rfl, rfl, by show v = outV [us.getD t undef]; rw [hut]; rfl, ?_, fun id hid => hid.elim, fun j i => ⟨fun h => ?_, fun h => ?_⟩⟩
  · have hF2 : ∀ b, E.F (callCtx P E.w F own G ⟨vs.length, []⟩ noAg) b → Env.F (callCtx P E.w F own G ⟨us.length, []⟩ noAg) ⟨fun b => none, fun _ => .slice none 0 0, fun _ => 0, w', fun j => False⟩ b ∧ w'.heap[b]? = E.w.heap[b]? := fun b hb => ⟨⟨rfl, hb.2.1, Nat.lt_of_lt_of_le hb.2.2 hB.size⟩, hB.block b hb.2.2⟩
    refine {
      slots := fun u => ?_
      rows := fun id r' hr' => by have := canon_row hr'; simp [canL, csV] at this
      boxes := fun id b hb => by have := canon_box hb; simp [canL, csV] at this
      nests := fun id r' hr' => by have := canon_nest hr'; simp [canL, csV] at this
      idn := fun id r' hr' => by have := canon_nest hr'; simp [canL, csV] at this
      ownlt := fun b o ho => by cases ho
      keep := ⟨hB.os, hB.tape, hB.output, hB.size, fun b hb _ => hB.block b hb⟩
      size := by show (List.toArray us).size = us.length; simp
      arg := fun t ht => by cases (show false = true from ht)
      defers := rfl
      idr := fun id r' hr' => by have := canon_row hr'; simp [canL, csV] at this
      idb := fun id b hb => by have := canon_box hb; simp [canL, csV] at this
      glob := fun g v hv => by
        obtain ⟨e1, e2⟩ := hrel.glob g v hv
        refine ⟨(hF2 g e1).1, fun i y hy => ?_⟩
        obtain ⟨ds, f1, f2⟩ := e2 i y hy
        exact ⟨ds, f1.mono hF2, f2.mono (hF2 g e1).2⟩ }
    show SLR _ _ (match look [(t, SL.one (.val k r))] u with | some s => s | none => .one .undef) _
    unfold look
    cases hb : Nat.beq t u with
    | false => trivial
    | true =>
      have := Nat.eq_of_beq_eq_true hb
      subst this
      show VRv w' (Env.F (callCtx P E.w F own G ⟨us.length, []⟩ noAg) ⟨fun b => none, fun _ => .slice none 0 0, fun _ => 0, w', fun j => False⟩) k r (us.toArray.getD t undef)
      rw [hut']
      refine hvr.mono (fun b hb => ⟨?_, rfl⟩)
      rcases hb with hb | hb
      · exact (hF2 b hb).1
      · exact ⟨rfl, .inr (.inl hb.1), hb.2⟩
  · simp [mtAt] at h
  · simp [mtAt] at h
end
end Go.Proofs.YtlioalaehkohlaaDoor.Vm
