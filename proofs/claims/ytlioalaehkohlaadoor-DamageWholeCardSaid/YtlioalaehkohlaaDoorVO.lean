/- What an argument reads as: a value of the machine's kinds. Conditions: as each theorem states them. -/
import Derived.Test.YtlioalaehkohlaaDoorV20
import Derived.Deep.Slices
namespace Go.Proofs.YtlioalaehkohlaaDoor.Vm
open Go Go.RowKit Go.ChangeShapes Go.WideShapes
set_option linter.unusedVariables false
set_option linter.unusedSimpArgs false
/-- numbers within their bounds, lists that are not beyond all bounds -/
def KWf : (k : Ki) → k.den → Prop
  | .int ik, x => (Lit.int ik x).wf = true
  | .bool, _ => True
  | .str, s => ByteArray.size s ≤ maxLen
  | .unit, _ => True
  | .list k, xs => List.length xs ≤ maxLen ∧ ∀ x ∈ (xs : List k.den), KWf k x
  | .pair a b, x => KWf a x.1 ∧ KWf b x.2
  | .arr _ _, _ => True
  | .ref _, _ => True
  | .nl _, _ => True
/-- kinds that a law's argument may have -/
def Ki.plain : Ki → Bool
  | .list k => k.plain
  | .pair a b => a.plain && b.plain
  | .arr _ _ => false
  | .ref _ => false
  | .nl _ => false
  | _ => true
theorem mapM_get {β γ : Type} {f : β → Option γ} : ∀ {l : List β} {cs : List γ}, l.mapM f = some cs → cs.length = l.length ∧ ∀ (i : Nat) (b : β), l[i]? = some b → f b = cs[i]? := by
  intro l
  induction l with
  | nil =>
    intro cs h
    simp at h
    subst h
    exact ⟨rfl, fun i b hb => by simp at hb⟩
  | cons a l ih =>
    intro cs h
    rw [List.mapM_cons] at h
    cases hf : f a with
    | none => simp [hf] at h
    | some y =>
      cases hm : l.mapM f with
      | none => simp [hf, hm] at h
      | some ys =>
        simp [hf, hm] at h
        subst h
        obtain ⟨h1, h2⟩ := ih hm
        refine ⟨by simp [h1], fun i b hb => ?_⟩
        cases i with
        | zero =>
          simp at hb
          subst hb
          simpa using hf
        | succ i =>
          simp at hb
          simpa using h2 i b hb
section
variable {H : Type} {enc : TypeId × Value → H} {P : Program} {W : World} {base : Nat}
theorem cells_of {a : Addr} {n : Nat} {cs : List Value} (h : W.cells? base a n = some cs) : cs.length = n ∧ ∀ (i : Nat) (u : Value), cs[i]? = some u → W.cell? (a.add i) = some u := by
  unfold World.cells? at h
  split at h
  · obtain ⟨h1, h2⟩ := mapM_get h
    rw [List.length_range] at h1
    refine ⟨h1, fun i u hu => ?_⟩
    have hi : i < n := by
      have := (List.getElem?_eq_some_iff.1 hu).1
      omega
    rw [h2 i i (by rw [List.getElem?_range hi]), hu]
  · cases h
theorem struct_get {t : TypeId} {fs : Array Field} {spare : Nat → Bool} {held : Bool} {fuel : Nat} {cs : List Value} {x : DataW H × List MemPlace} (ht : P.underlying t = some (.struct fs)) (h : DataW.trod enc P W base spare held fuel t cs = some x) :
    cs.length = P.cellsOf t ∧ ∃ m, ∀ (i : Nat) (f : Field), fs.toList[i]? = some f → ∃ y, DataW.trod enc P W base spare held m f.type ((cs.drop f.offset).take (P.cellsOf f.type)) = some y := by
  cases fuel with
  | zero => simp [DataW.trod] at h
  | succ m =>
    unfold DataW.trod at h
    rw [ht] at h
    dsimp only at h
    by_cases hc : cs.length = P.cellsOf t
    · rw [if_pos hc] at h
      obtain ⟨ys, hy, _⟩ := Option.map_eq_some_iff.1 h
      obtain ⟨h1, h2⟩ := mapM_get hy
      refine ⟨hc, m, fun i f hf => ?_⟩
      have h3 := h2 i f hf
      have hi : i < ys.length := by rw [h1]; exact (List.getElem?_eq_some_iff.1 hf).1
      rw [List.getElem?_eq_getElem hi] at h3
      exact ⟨_, h3⟩
    · rw [if_neg hc] at h
      cases h
theorem cell_lt {a : Addr} {u : Value} (h : W.cell? a = some u) : a.block < W.heap.size ∧ a.spot = none := by
  unfold World.cell? at h
  split at h
  · rename_i c e f hc
    refine ⟨(Array.getElem?_eq_some_iff.1 hc).1, ?_⟩
    split at h
    · cases h
    · rename_i hs
      cases hsp : a.spot with
      | none => rfl
      | some s => rw [hsp] at hs; simp at hs
  · cases h
theorem cellsOf_kind {T : Tys} (hT : TyOk P T) {t : TypeId} {k : Ki} (hk : T.kind t = some k) : P.cellsOf t = k.sz := by
  obtain ⟨⟨i, z, h1, h2, _⟩, _⟩ := hT.kd t k hk
  simp [Program.cellsOf, h1, h2]
theorem opens2 {T : Tys} (hT : TyOk P T) : ∀ k : Ki, k.plain = true →
    (∀ (t : TypeId), T.kind t = some k → ∀ {spare : Nat → Bool} {held : Bool} {fuel : Nat} {cs : List Value} {x : DataW H × List MemPlace}, DataW.trod enc P W base spare held fuel t cs = some x → ∃ z : k.den, VR W (fun b => b < W.heap.size) k z cs ∧ KWf k z) ∧
    (∀ (fs : List Field) (o : Nat) (cs : List Value), FieldsAt T P k o fs → cs.length = o + k.sz → ∀ {spare : Nat → Bool} {held : Bool} {m : Nat}, (∀ (i : Nat) (f : Field), fs[i]? = some f → ∃ y, DataW.trod enc P W base spare held m f.type ((cs.drop f.offset).take (P.cellsOf f.type)) = some y) → ∃ z : k.den, VR W (fun b => b < W.heap.size) k z (cs.drop o) ∧ KWf k z) := by
  intro k
  induction k with
  | arr n k => intro hp; cases hp
  | ref k => intro hp; cases hp
  | nl k => intro hp; cases hp
  | int ik =>
    intro _
    refine ⟨fun t hk spare held fuel cs x h => ?_, fun fs o cs hf => by cases fs <;> exact hf.elim⟩
    obtain ⟨n, rfl, _, hw⟩ := DataW.trod_int (hT.kd t _ hk).2 h
    exact ⟨n, rfl, hw⟩
  | bool =>
    intro _
    refine ⟨fun t hk spare held fuel cs x h => ?_, fun fs o cs hf => by cases fs <;> exact hf.elim⟩
    obtain ⟨b, rfl, _⟩ := DataW.trod_bool (hT.kd t _ hk).2 h
    exact ⟨b, rfl, trivial⟩
  | str =>
    intro _
    refine ⟨fun t hk spare held fuel cs x h => ?_, fun fs o cs hf => by cases fs <;> exact hf.elim⟩
    obtain ⟨s, rfl, _, hs⟩ := DataW.trod_string (hT.kd t _ hk).2 h
    exact ⟨s, rfl, hs⟩
  | unit =>
    intro _
    refine ⟨fun t hk spare held fuel cs x h => ?_, fun fs o cs hf hl spare held m hg => ?_⟩
    · obtain ⟨fs, hu, hf⟩ := (hT.kd t _ hk).2
      obtain ⟨h1, _⟩ := struct_get hu h
      rw [cellsOf_kind hT hk] at h1
      exact ⟨(), List.eq_nil_of_length_eq_zero h1, trivial⟩
    · exact ⟨(), List.drop_eq_nil_of_le (by simp only [Ki.sz] at hl; omega), trivial⟩
  | list k ih =>
    intro hp
    replace ih := ih hp
    refine ⟨fun t hk spare held fuel cs x h => ?_, fun fs o cs hf => by cases fs <;> exact hf.elim⟩
    obtain ⟨e, hu, hke, hsz, _⟩ := (hT.kd t _ hk).2
    rcases Deep.open_slice hu h with ⟨rfl, _⟩ | ⟨a, len, cap, m, n, D, Pl, rfl, hb, hl, hcm, hmm, rfl, hx⟩
    · exact ⟨([] : List k.den), ⟨none, 0, rfl, Nat.le_refl _, Nat.zero_le _, fun i x h => by simp at h⟩, Nat.zero_le _, fun x hx => by simp at hx⟩
    · have hlm : len ≤ m := by rw [hmm]; split <;> omega
      have hce := cellsOf_kind hT hke
      have hxi : ∀ i, i < len → ∃ v : k.den, (∃ ds, VR W (fun b => b < W.heap.size) k v ds ∧ (a.block < W.heap.size ∧ a.spot = none) ∧ CellsAt W a.block (a.off + i * k.sz) ds) ∧ KWf k v := fun i hi => by
        obtain ⟨cs', h1, h2⟩ := hx i (by omega)
        obtain ⟨v, hv, hw⟩ := ih.1 e hke h2
        rw [hce] at h1
        obtain ⟨h3, h4⟩ := cells_of h1
        have h0 : 0 < cs'.length := by rw [h3]; exact hsz
        have hc0 := h4 0 cs'[0] (List.getElem?_eq_getElem h0)
        obtain ⟨l1, l2⟩ := cell_lt hc0
        have hblk : (Addr.add (a.add (i * k.sz)) 0).block = a.block := by simp only [Addr.add]; split <;> split <;> rfl
        have hsp : a.spot = none := by
          by_cases hi0 : i * k.sz = 0
          · simpa [Addr.add, hi0] using l2
          · -- the first element's address
            have hlen0 : 0 < len := by omega
            obtain ⟨cs0, f1, f2⟩ := hx 0 (by omega)
            rw [hce] at f1
            obtain ⟨f3, f4⟩ := cells_of f1
            have f0 : 0 < cs0.length := by rw [f3]; exact hsz
            have := (cell_lt (f4 0 cs0[0] (List.getElem?_eq_getElem f0))).2
            simpa [Addr.add] using this
        rw [hblk] at l1
        refine ⟨v, ⟨cs', hv, ⟨l1, hsp⟩, fun j u hu => ?_⟩, hw⟩
        have hj := h4 j u hu
        have ha : a = ⟨a.block, a.off, none⟩ := by cases a; simp at hsp; rw [hsp]
        rw [ha, add_at, add_at] at hj
        exact hj
      haveI : Inhabited k.den := ⟨k.zero⟩
      obtain ⟨Fz, hF⟩ := Deep.choose_lt (α := k.den) (n := len) (p := fun i v => (∃ ds, VR W (fun b => b < W.heap.size) k v ds ∧ (a.block < W.heap.size ∧ a.spot = none) ∧ CellsAt W a.block (a.off + i * k.sz) ds) ∧ KWf k v) hxi
      have hlen : ((List.range len).map Fz).length = len := by simp
      refine ⟨(List.range len).map Fz, ⟨some a, cap, by rw [hlen], by rw [hlen]; exact hl, hcm, fun i x hx => ?_⟩, by rw [hlen]; omega, fun x hx => ?_⟩
      · have hil : i < len := by
          have := (List.getElem?_eq_some_iff.1 hx).1
          simpa using this
        rw [List.getElem?_map, List.getElem?_range hil] at hx
        simp at hx
        subst hx
        obtain ⟨⟨ds, e1, e2, e3⟩, _⟩ := hF i hil
        refine ⟨a.block, a.off, ds, ?_, e2.1, e1, e3⟩
        have := e2.2
        cases a
        simp at this
        rw [this]
      · rw [List.mem_map] at hx
        obtain ⟨i, hi, rfl⟩ := hx
        exact (hF i (List.mem_range.1 hi)).2
  | pair a b iha ihb =>
    intro hp
    have hp' : a.plain = true ∧ b.plain = true := by simpa [Ki.plain] using hp
    replace iha := iha hp'.1
    replace ihb := ihb hp'.2
    have hB : ∀ (fs : List Field) (o : Nat) (cs : List Value), FieldsAt T P (.pair a b) o fs → cs.length = o + (Ki.pair a b).sz → ∀ {spare : Nat → Bool} {held : Bool} {m : Nat}, (∀ (i : Nat) (f : Field), fs[i]? = some f → ∃ y, DataW.trod enc P W base spare held m f.type ((cs.drop f.offset).take (P.cellsOf f.type)) = some y) → ∃ z : (Ki.pair a b).den, VR W (fun b => b < W.heap.size) (.pair a b) z (cs.drop o) ∧ KWf (.pair a b) z := by
      intro fs o cs hf hl spare held m hg
      cases fs with
      | nil => exact hf.elim
      | cons f fs =>
        obtain ⟨g1, g2, g3, g4⟩ := hf
        have hsz : (Ki.pair a b).sz = a.sz + b.sz := rfl
        rw [hsz] at hl
        obtain ⟨y, hy⟩ := hg 0 f rfl
        rw [cellsOf_kind hT g2, g1] at hy
        obtain ⟨z1, v1, w1⟩ := iha.1 f.type g2 hy
        obtain ⟨z2, v2, w2⟩ := ihb.2 fs (o + a.sz) cs g4 (by omega) (fun i f' hf' => hg (i + 1) f' (by simpa using hf'))
        refine ⟨(z1, z2), ⟨(cs.drop o).take a.sz, cs.drop (o + a.sz), ?_, v1, v2⟩, w1, w2⟩
        rw [← List.drop_drop, List.take_append_drop]
    refine ⟨fun t hk spare held fuel cs x h => ?_, fun fs o cs hf hl spare held m hg => hB fs o cs hf hl hg⟩
    obtain ⟨fs, hu, hf⟩ := (hT.kd t _ hk).2
    obtain ⟨h1, m, h2⟩ := struct_get hu h
    rw [cellsOf_kind hT hk] at h1
    obtain ⟨z, hz, hw⟩ := hB fs.toList 0 cs hf (by omega) h2
    exact ⟨z, by simpa using hz, hw⟩
theorem opens {T : Tys} (hT : TyOk P T) {k : Ki} {t : TypeId} (hk : T.kind t = some k) {spare : Nat → Bool} {held : Bool} {fuel : Nat} {v : Value} {x : DataW H × List MemPlace} (h : DataW.trod enc P W base spare held fuel t v.cells.toList = some x) (ha : k.agg = true → ∃ cs : Array Value, v = .agg cs) (ha' : k.agg = false → v.cells = #[v]) (hp : k.plain = true := by rfl) :
    ∃ z : k.den, VRv W (fun b => b < W.heap.size) k z v ∧ KWf k z := by
  obtain ⟨z, h1, h2⟩ := (opens2 hT k hp).1 t hk h
  refine ⟨z, ?_, h2⟩
  unfold VRv
  split
  · rename_i hk
    obtain ⟨cs, rfl⟩ := ha hk
    exact ⟨cs.toList, by simp, by simpa [Value.cells] using h1⟩
  · rename_i hk
    rw [ha' (by simpa using hk)] at h1
    exact h1
/-- What a law function that the machine runs answers: its arguments are values. -/
def valsLin : List Ki → Nat → List (Nat × CS)
  | [], _ => []
  | k :: ks, i => (i, .v k) :: valsLin ks (i + 1)
def ValsAt (W : World) (F : Nat → Prop) : (ks : List Ki) → (i : Nat) → CSs.den (valsLin ks i) → List Value → Prop
  | [], _, _, vs => vs = []
  | k :: ks, i, x, vs => ∃ v us, vs = v :: us ∧ VRv W F k x.1 v ∧ ValsAt W F ks (i + 1) x.2 us
theorem valsLin_len : ∀ (ks : List Ki) (i : Nat), (valsLin ks i).length = ks.length
  | [], _ => rfl
  | k :: ks, i => congrArg (· + 1) (valsLin_len ks (i + 1))
theorem vals_obs : ∀ (ks : List Ki) (i : Nat) (x : CSs.den (valsLin ks i)) (m : Nat), (canL (valsLin ks i) x m).2 = []
  | [], _, _, _ => rfl
  | k :: ks, i, x, m => by
    show [] ++ (canL (valsLin ks (i + 1)) x.2 (m + 0)).2 = []
    rw [List.nil_append, vals_obs ks (i + 1) x.2]
theorem vals_slot {W : World} {F : Nat → Prop} : ∀ (ks : List Ki) (i : Nat) (x : CSs.den (valsLin ks i)) (vs : List Value) (m : Nat), ValsAt W F ks i x vs → ∀ t s, look (canL (valsLin ks i) x m).1 t = some s → i ≤ t ∧ ∃ (k : Ki) (z : k.den), s = .one (.val k z) ∧ VRv W F k z (vs.getD (t - i) undef)
  | [], _, _, _, _, _, t, s, h => by simp [valsLin, canL, look] at h
  | k :: ks, i, x, vs, m, hva, t, s, h => by
    obtain ⟨v, us, h0, h1, h2⟩ : ∃ v us, vs = v :: us ∧ VRv W F k x.1 v ∧ ValsAt W F ks (i + 1) x.2 us := hva
    subst h0
    have h' : look ((i, SL.one (.val k x.1)) :: (canL (valsLin ks (i + 1)) x.2 (m + 0)).1) t = some s := h
    unfold look at h'
    split at h'
    · rename_i hb
      have := Nat.eq_of_beq_eq_true hb
      subst this
      cases h'
      exact ⟨Nat.le_refl _, k, x.1, rfl, by simpa using h1⟩
    · obtain ⟨e1, k', z, e2, e3⟩ := vals_slot ks (i + 1) x.2 us (m + 0) h2 t s h'
      refine ⟨by omega, k', z, e2, ?_⟩
      rw [show t - i = (t - (i + 1)) + 1 by omega]
      simpa using e3
theorem law_calls {G : List (Nat × GV)} {f : FuncId} {d : Den} (hsat : Sat P G f d) {ks : List Ki} (hlin : d.lin = valsLin ks 0) {W : World} (hgl : ∀ g v, look G g = some v → g < W.heap.size ∧ ∀ i x, v.xs[i]? = some x → ∃ ds, VR W (fun b => b < W.heap.size) v.k x ds ∧ CellsAt W g (i * v.k.sz) ds)
    {vs : List Value} {x : CSs.den (valsLin ks 0)} (hx : ValsAt W (fun b => b < W.heap.size) ks 0 x vs) {t : Nat} (hout : d.lout = [(t, .v .bool)]) (hres : d.res = [t]) {r : d.A} (hr : d.f (hlin ▸ x) = some r) (ht : (hout ▸ d.out r : CSs.den [(t, CS.v .bool)]).1 = true) :
    Calls P f vs.toArray W (fun e w' => e = .returned (.bool true) ∧ Below W.heap.size W w') := by
  obtain ⟨lin, lout, res, mt, A, fd, out⟩ := d
  simp only at hlin hout hres
  subst hlin; subst hout; subst hres
  have hlen : vs.length = ks.length := by
    clear hr ht hgl hsat
    revert vs
    have : ∀ (ks : List Ki) (i : Nat) (x : CSs.den (valsLin ks i)) (vs : List Value), ValsAt W (fun b => b < W.heap.size) ks i x vs → vs.length = ks.length := by
      intro ks
      induction ks with
      | nil => intro i x vs h; rw [show vs = [] from h]; rfl
      | cons k ks ih =>
        intro i x vs h
        obtain ⟨v, us, rfl, _, h2⟩ := h
        exact congrArg (· + 1) (ih (i + 1) x.2 us h2)
    exact fun {vs} h => this ks 0 x vs h
  have hobs := vals_obs ks 0 x 0
  have hF : ∀ b, b < W.heap.size → Env.F (callCtx P W (fun b => b < W.heap.size) (fun _ => False) G ⟨vs.length, []⟩ noAg) ⟨fun _ => none, fun _ => .slice none 0 0, fun _ => 0, W, fun _ => False⟩ b := fun b hb => ⟨rfl, .inl hb, hb⟩
  refine (hsat.1 W (fun b => b < W.heap.size) (fun _ => False) vs ⟨fun _ => none, fun _ => .slice none 0 0, fun _ => 0, W, fun _ => False⟩ x r (by rw [hlen]; exact (valsLin_len ks 0).symm) rfl {
    slots := fun t => by
      show SLR _ _ (match look (canL (valsLin ks 0) x 0).1 t with | some s => s | none => .one .undef) _
      cases hl : look (canL (valsLin ks 0) x 0).1 t with
      | none => trivial
      | some s =>
        obtain ⟨_, k, z, rfl, h3⟩ := vals_slot ks 0 x vs 0 hx t s hl
        have hv : vs.toArray.getD t undef = vs.getD t undef := by rw [Array.getD_eq_getD_getElem?, List.getD_eq_getElem?_getD, List.getElem?_toArray]
        show VRv _ _ k z (vs.toArray.getD t undef)
        rw [hv]
        exact VRv.mono (fun b hb => ⟨hF b hb, rfl⟩) h3
    rows := fun id r' hr' => by have := canon_row hr'; rw [hobs] at this; simp at this
    boxes := fun id r' hr' => by have := canon_box hr'; rw [hobs] at this; simp at this
    nests := fun id r' hr' => by have := canon_nest hr'; rw [hobs] at this; simp at this
    idn := fun id r' hr' => by have := canon_nest hr'; rw [hobs] at this; simp at this
    ownlt := fun b o ho => by cases ho
    keep := ⟨rfl, rfl, rfl, Nat.le_refl _, fun _ _ _ => rfl⟩
    size := by show (List.toArray vs).size = vs.length; simp
    arg := fun t ht => by cases (show false = true from ht)
    defers := rfl
    idr := fun id r' hr' => by have := canon_row hr'; rw [hobs] at this; simp at this
    idb := fun id r' hr' => by have := canon_box hr'; rw [hobs] at this; simp at this
    glob := fun g v hv => by
      obtain ⟨h1, h2⟩ := hgl g v hv
      refine ⟨hF g h1, fun i y hy => ?_⟩
      obtain ⟨ds, h3, h4⟩ := h2 i y hy
      exact ⟨ds, h3.mono (fun b hb => ⟨hF b hb, rfl⟩), h4⟩ } (fun id hid => hid.elim) hr).mono ?_
  rintro e w' ⟨v, us, E', rfl, rfl, rfl, h4, h5, h6⟩
  have h7 := h4.slots t
  have h8 : VRv E'.w (E'.F (callCtx P W (fun b => b < W.heap.size) (fun _ => False) G ⟨us.length, []⟩ noAg)) .bool (out r).1 (us.toArray.getD t undef) := by
    have h9 : (canon [(t, CS.v .bool)] (out r)).sl t = .one (.val .bool (out r).1) := by
      show (match look (canL [(t, CS.v .bool)] (out r) 0).1 t with | some s => s | none => .one .undef) = _
      have : look (canL [(t, CS.v .bool)] (out r) 0).1 t = some (.one (.val .bool (out r).1)) := by
        show look [(t, SL.one (.val .bool (out r).1))] t = _
        unfold look
        simp
      rw [this]
    rw [h9] at h7
    exact h7
  have h10 := VRv.bool h8
  have hv : us.toArray.getD t undef = us.getD t undef := by rw [Array.getD_eq_getD_getElem?, List.getD_eq_getElem?_getD, List.getElem?_toArray]
  refine ⟨?_, ?_⟩
  · show Ending.returned (outV [us.getD t undef]) = _
    rw [← hv, h10]
    have ht' : (out r).1 = true := ht
    rw [ht']
    rfl
  · exact ⟨h4.keep.os, h4.keep.tape, h4.keep.output, h4.keep.size, fun b hb => h4.keep.block b hb (fun h => h)⟩
end
end Go.Proofs.YtlioalaehkohlaaDoor.Vm
