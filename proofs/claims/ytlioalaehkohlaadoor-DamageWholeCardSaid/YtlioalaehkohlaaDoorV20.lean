/- Where the loops of a body lie. Conditions: as each theorem states them. -/
import Derived.Test.YtlioalaehkohlaaDoorV19
namespace Go.Proofs.YtlioalaehkohlaaDoor.Vm
open Go Go.RowKit
set_option linter.unusedVariables false
set_option linter.unusedSimpArgs false
def allB : Code → List (Nat × Code)
  | .block id c => (id, c) :: allB c
  | .seq a b => allB a ++ allB b
  | .cond _ a b => allB a ++ allB b
  | .loop c => allB c
  | _ => []
def allR : Code → List (Nat × Array Oper)
  | .region id ops true => [(id, ops)]
  | .block id c => allR c
  | .seq a b => allR a ++ allR b
  | .cond _ a b => allR a ++ allR b
  | .loop c => allR c
  | _ => []
def keyIn {β : Type} (i : Nat) : List (Nat × β) → Bool
  | [] => false
  | e :: r => Nat.beq e.1 i || keyIn i r
def keysOk {β : Type} : List (Nat × β) → Bool
  | [] => true
  | e :: r => !keyIn e.1 r && keysOk r
def cd (fn : Func) : Code := fn.body.getD .ret
def lb (fn : Func) (id : Nat) : Code := match look (allB (cd fn)) id with
  | some (.loop c) => c
  | _ => .ret
def mkH (blk : List (Nat × Hint)) (drw : List (Nat × Draw)) (unr : List (Nat × Nat)) (reg : List (Nat × Hint)) (jn : List (Nat × List (Out × List (Nat × CS)))) : Hints := ⟨look blk, look reg, look drw, look unr, look jn⟩
def TblOk (P : Program) (G : List (Nat × GV)) (n : NS) (c : Code) : List (Nat × Hint) → Prop
  | [] => True
  | e :: r => (∃ c', look (allB c) e.1 = some c' ∧ HintOk P G n (.block e.1 c') e.2) ∧ TblOk P G n c r
def RegOk (P : Program) (G : List (Nat × GV)) (n : NS) (c : Code) : List (Nat × Hint) → Prop
  | [] => True
  | e :: r => (∃ ops, look (allR c) e.1 = some ops ∧ HintOk P G n (.region e.1 ops true) e.2) ∧ RegOk P G n c r
def drwOk (drw : List (Nat × Draw)) : List (Nat × Array Oper) → Bool
  | [] => true
  | e :: r => (match look drw e.1 with
    | some d => pathOk e.2 d.p e.2.size (Array.replicate e.2.size false) [] && Region.noSelect e.2
    | none => true) && drwOk drw r
theorem keyIn_mem {β : Type} {i : Nat} {c : β} : ∀ {l : List (Nat × β)}, (i, c) ∈ l → keyIn i l = true
  | e :: r, h => by
    rcases List.mem_cons.1 h with h | h
    · subst h; simp [keyIn]
    · simp [keyIn, keyIn_mem h]
theorem look_key {β : Type} {i : Nat} {c : β} : ∀ {l : List (Nat × β)}, keysOk l = true → (i, c) ∈ l → look l i = some c
  | (j, c') :: r, hk, h => by
    simp only [keysOk, Bool.and_eq_true, Bool.not_eq_true'] at hk
    unfold look
    rcases List.mem_cons.1 h with h | h
    · cases h; simp
    · have hne : Nat.beq j i = false := by
        cases hb : Nat.beq j i with
        | false => rfl
        | true =>
          have := Nat.eq_of_beq_eq_true hb
          subst this
          have h1 := hk.1
          rw [keyIn_mem h] at h1
          cases h1
      rw [hne]
      exact look_key hk.2 h
theorem tbl_at {P : Program} {G : List (Nat × GV)} {n : NS} {c : Code} {id : Nat} {h : Hint} : ∀ {tbl : List (Nat × Hint)}, TblOk P G n c tbl → look tbl id = some h → ∃ c', look (allB c) id = some c' ∧ HintOk P G n (.block id c') h
  | (j, h') :: r, ht, hl => by
    unfold look at hl
    split at hl
    · rename_i hb
      have := Nat.eq_of_beq_eq_true hb
      subst this
      cases hl
      exact ht.1
    · exact tbl_at ht.2 hl
theorem reg_at {P : Program} {G : List (Nat × GV)} {n : NS} {c : Code} {id : Nat} {h : Hint} : ∀ {tbl : List (Nat × Hint)}, RegOk P G n c tbl → look tbl id = some h → ∃ c', look (allR c) id = some c' ∧ HintOk P G n (.region id c' true) h
  | (j, h') :: r, ht, hl => by
    unfold look at hl
    split at hl
    · rename_i hb
      have := Nat.eq_of_beq_eq_true hb
      subst this
      cases hl
      exact ht.1
    · exact reg_at ht.2 hl
theorem drw_at {drw : List (Nat × Draw)} {id : Nat} {ops : Array Oper} {d : Draw} : ∀ {l : List (Nat × Array Oper)}, drwOk drw l = true → (id, ops) ∈ l → look drw id = some d → pathOk ops d.p ops.size (Array.replicate ops.size false) [] = true ∧ Region.noSelect ops = true
  | e :: r, h, hm, hl => by
    simp only [drwOk, Bool.and_eq_true] at h
    rcases List.mem_cons.1 hm with hm | hm
    · subst hm
      have h1 := h.1
      rw [hl] at h1
      simpa using h1
    · exact drw_at h.2 hm hl
theorem hints_all {P : Program} {G : List (Nat × GV)} {n : NS} {H : Hints} : ∀ (c : Code), (∀ id h c', H.blk id = some h → (id, c') ∈ allB c → HintOk P G n (.block id c') h) → (∀ id h ops, H.reg id = some h → (id, ops) ∈ allR c → HintOk P G n (.region id ops true) h) →
    (∀ id d ops, H.drw id = some d → (id, ops) ∈ allR c → pathOk ops d.p ops.size (Array.replicate ops.size false) [] = true ∧ Region.noSelect ops = true) → hintsIn H P G n c := by
  intro c
  induction c with
  | seq x y ihx ihy => intro h1 h2 h3; exact ⟨ihx (fun id hh c' e1 e2 => h1 id hh c' e1 (List.mem_append_left _ e2)) (fun id hh c' e1 e2 => h2 id hh c' e1 (List.mem_append_left _ e2)) (fun id hh c' e1 e2 => h3 id hh c' e1 (List.mem_append_left _ e2)), ihy (fun id hh c' e1 e2 => h1 id hh c' e1 (List.mem_append_right _ e2)) (fun id hh c' e1 e2 => h2 id hh c' e1 (List.mem_append_right _ e2)) (fun id hh c' e1 e2 => h3 id hh c' e1 (List.mem_append_right _ e2))⟩
  | cond x y z ihy ihz => intro h1 h2 h3; exact ⟨ihy (fun id hh c' e1 e2 => h1 id hh c' e1 (List.mem_append_left _ e2)) (fun id hh c' e1 e2 => h2 id hh c' e1 (List.mem_append_left _ e2)) (fun id hh c' e1 e2 => h3 id hh c' e1 (List.mem_append_left _ e2)), ihz (fun id hh c' e1 e2 => h1 id hh c' e1 (List.mem_append_right _ e2)) (fun id hh c' e1 e2 => h2 id hh c' e1 (List.mem_append_right _ e2)) (fun id hh c' e1 e2 => h3 id hh c' e1 (List.mem_append_right _ e2))⟩
  | block id c ih =>
    intro h1 h2 h3
    unfold hintsIn
    split
    · rename_i hh hid
      exact h1 id hh c hid (List.mem_cons_self ..)
    · exact ih (fun id' hh c' e1 e2 => h1 id' hh c' e1 (List.mem_cons_of_mem _ e2)) h2 h3
  | loop c ih => intro h1 h2 h3; exact ih h1 h2 h3
  | region id ops draw =>
    intro h1 h2 h3
    cases draw with
    | false => trivial
    | true =>
      unfold hintsIn
      split
      · rename_i hh hid
        exact h2 id hh ops hid (List.mem_cons_self ..)
      · split
        · rename_i d hd
          exact h3 id d ops hd (List.mem_cons_self ..)
        · trivial
  | _ => intro _ _ _; trivial
theorem hints_of {P : Program} {G : List (Nat × GV)} {n : NS} {c : Code} {blk : List (Nat × Hint)} {drw : List (Nat × Draw)} {unr : List (Nat × Nat)} {reg : List (Nat × Hint)} {jn : List (Nat × List (Out × List (Nat × CS)))} (hk : (keysOk (allB c) && (keysOk (allR c) && drwOk drw (allR c))) = true) (hb : TblOk P G n c blk) (hr : RegOk P G n c reg) : hintsIn (mkH blk drw unr reg jn) P G n c := by
  simp only [Bool.and_eq_true] at hk
  refine hints_all c (fun id h c' h1 h2 => ?_) (fun id h c' h1 h2 => ?_) (fun id d ops h1 h2 => drw_at hk.2.2 h2 h1)
  · obtain ⟨c2, e1, e2⟩ := tbl_at hb h1
    rw [look_key hk.1 h2] at e1
    cases e1
    exact e2
  · obtain ⟨c2, e1, e2⟩ := reg_at hr h1
    rw [look_key hk.2.1 h2] at e1
    cases e1
    exact e2
/-- A loop, by its typed function. -/
theorem loop_is {P : Program} {T : Tys} {D : FuncId → Nat → Option Den} (hT : TyOk P T) (hD : DenOk P T.gl D) {ns : NS} {fn : Func} {id : Nat} (blk : List (Nat × Hint)) (drw : List (Nat × Draw)) (unr : List (Nat × Nat)) (reg : List (Nat × Hint)) (jn : List (Nat × List (Out × List (Nat × CS)))) (hk : (keysOk (allB (lb fn id)) && (keysOk (allR (lb fn id)) && drwOk drw (allR (lb fn id)))) = true)
    (hb : TblOk P T.gl ns (lb fn id) blk) (hr : RegOk P T.gl ns (lb fn id) reg) (L : List (Nat × CS)) (ws : List (Out × List (Nat × CS))) (hL : ∀ x, Nat.ble (canL L x 0).2.length 1000 = true) (hws : ∀ w ∈ ws, ∀ x, Nat.ble (canL w.2 x 0).2.length 1000 = true)
    (G : Nat → CSs.den L → Option (wayDen ws)) (h0 : ∀ x, G 0 x = none) (hs : ∀ k x, run T D (mkH blk drw unr reg jn) ns (lb fn id) (canon L x) (loopK id L (G k)) = G (k + 1) x) (k : Nat) : HintOk P T.gl ns (.block id (.loop (lb fn id))) ⟨L, ws, G k⟩ :=
  loop_ok hT hD (hints_of hk hb hr) L ws hL hws G h0 hs k
/-- A function, by its typed one. -/
theorem sat_is {P : Program} {T : Tys} {D : FuncId → Nat → Option Den} (hT : TyOk P T) (hD : DenOk P T.gl D) {f : FuncId} {fn : Func} (hf : P.funcs[f]? = some fn) (hb : fn.body = some (cd fn)) (hname : (fn.name == "runtime.NumGoroutine") = false) (d : Den) (blk : List (Nat × Hint)) (drw : List (Nat × Draw)) (unr : List (Nat × Nat)) (reg : List (Nat × Hint)) (jn : List (Nat × List (Out × List (Nat × CS))))
    (hk : (keysOk (allB (cd fn)) && (keysOk (allR (cd fn)) && drwOk drw (allR (cd fn)))) = true) (ht : TblOk P T.gl (nsOf fn d.lin d.lout) (cd fn) blk) (hr : RegOk P T.gl (nsOf fn d.lin d.lout) (cd fn) reg)
    {rs : List ResultVar} (hrs : fn.results.toList = rs) (hres : resIx rs fn.ntmps = d.res) (hrl : resLt fn.ntmps rs = true) (har : (nsOf fn d.lin d.lout).ar.all (Nat.blt · fn.ntmps) = true) (hps : Nat.ble d.lin.length fn.ntmps = true) (hlen : ∀ x, Nat.ble (canL d.lin x 0).2.length 1000 = true) (hmt : ∀ x r, mtOk (nsOf fn d.lin d.lout).ar (canL d.lin x 0).1 (canL d.lout (d.out r) 0).1 d.mt 0 = true)
    (fin : CSs.den d.lout → d.A) (hfin : ∀ y, d.out (fin y) = y) (hrun : ∀ x, run T D (mkH blk drw unr reg jn) (nsOf fn d.lin d.lout) (cd fn) (canon d.lin x) (retK T rs fn.ntmps d.lout fin) = d.f x) : Sat P T.gl f d :=
  sat_of_run hT hD hf hb hname d hrs hres hrl har (Nat.le_of_ble_eq_true hps) (fun x => Nat.le_of_ble_eq_true (hlen x)) hmt (hints_of hk ht hr) fin hfin hrun
def Tys.keepT (T : Tys) (l : List Nat) (m : List (Nat × Ki)) (ns nf bs : List Nat := []) : Tys := { T with kp := l, nls := m, ns := ns, nf := nf, bs := bs }
theorem FieldsAt.keep {P : Program} {T : Tys} (l : List Nat) (m : List (Nat × Ki)) (ns nf bs : List Nat := []) : ∀ {k : Ki} {o : Nat} {fs : List Field}, FieldsAt T P k o fs → FieldsAt (T.keepT l m ns nf bs) P k o fs := by
  intro k
  induction k with
  | pair a b iha ihb =>
    intro o fs h
    cases fs with
    | nil => exact h
    | cons f fs => exact ⟨h.1, h.2.1, h.2.2.1, ihb h.2.2.2⟩
  | unit => intro o fs h; cases fs <;> exact h
  | _ => intro o fs h; exact h
theorem KindAt.keep {P : Program} {T : Tys} (l : List Nat) (m : List (Nat × Ki)) (ns nf bs : List Nat := []) {t : TypeId} {k : Ki} (h : KindAt T P t k) : KindAt (T.keepT l m ns nf bs) P t k := by
  refine ⟨h.1, ?_⟩
  cases k with
  | pair a b => obtain ⟨fs, h1, h2⟩ := h.2; exact ⟨fs, h1, h2.keep l m ns nf bs⟩
  | unit => obtain ⟨fs, h1, h2⟩ := h.2; exact ⟨fs, h1, h2.keep l m ns nf bs⟩
  | list k => exact h.2
  | int k => exact h.2
  | bool => exact h.2
  | str => exact h.2
  | arr n k => exact h.2
  | ref k => exact h.2
  | nl k => exact h.2
theorem TyOk.keep {P : Program} {T : Tys} (h : TyOk P T) (l : List Nat) (m : List (Nat × Ki)) (ns nf bs : List Nat := []) : TyOk P (T.keepT l m ns nf bs) := ⟨fun t k hk => (h.kd t k hk).keep l m ns nf bs, h.fo, h.zo, h.cm, h.ar, h.ps, h.mx, h.pt⟩
/-- the answers of the functions that one calls -/
def lookD : List ((Nat × Nat) × Den) → FuncId → Nat → Option Den
  | [], _, _ => none
  | e :: r, f, k => match Nat.beq e.1.1 f, Nat.beq e.1.2 k with
    | true, true => some e.2
    | _, _ => lookD r f k
def AllSat (P : Program) (G : List (Nat × GV)) : List ((Nat × Nat) × Den) → Prop
  | [] => True
  | e :: r => Sat P G e.1.1 e.2 ∧ AllSat P G r
theorem lookD_ok {P : Program} {G : List (Nat × GV)} : ∀ {l : List ((Nat × Nat) × Den)}, AllSat P G l → DenOk P G (lookD l)
  | [], _, f, k, d, h => by cases h
  | e :: r, ha, f, k, d, h => by
    unfold lookD at h
    split at h
    · rename_i h1 h2
      cases h
      have := Nat.eq_of_beq_eq_true h1
      subst this
      exact ha.1
    · exact lookD_ok ha.2 f k d h
theorem ways_nil : ∀ w ∈ ([] : List (Out × List (Nat × CS))), ∀ x, Nat.ble (canL w.2 x 0).2.length 1000 = true := fun w h => by cases h
theorem ways_cons {w0 : Out × List (Nat × CS)} {ws : List (Out × List (Nat × CS))} (h0 : ∀ x, Nat.ble (canL w0.2 x 0).2.length 1000 = true) (h : ∀ w ∈ ws, ∀ x, Nat.ble (canL w.2 x 0).2.length 1000 = true) : ∀ w ∈ w0 :: ws, ∀ x, Nat.ble (canL w.2 x 0).2.length 1000 = true := fun w hw => by
  rcases List.mem_cons.1 hw with rfl | hw
  · exact h0
  · exact h w hw
/-- a choice that the kernel takes apart before the machine's terms -/
noncomputable def iteR {α : Type} (c : Prop) [h : Decidable c] (t e : α) : α := (fun (_ : Tys → (FuncId → Nat → Option Den) → Hints → NS → {R : Type} → Code → St → (Out → St → Option R) → Option R) => Decidable.rec (motive := fun _ => α) (fun _ => e) (fun _ => t) h) @run
end Go.Proofs.YtlioalaehkohlaaDoor.Vm
