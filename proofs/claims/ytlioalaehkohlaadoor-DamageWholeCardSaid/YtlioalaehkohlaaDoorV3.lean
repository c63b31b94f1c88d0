/- The machine over whole bodies. Conditions: as each theorem states them. -/
import Derived.Test.YtlioalaehkohlaaDoorV2
namespace Go.Proofs.YtlioalaehkohlaaDoor.Vm
open Go Go.RowKit
set_option linter.unusedVariables false
set_option linter.unusedSimpArgs false
def St.frs (S : St) : List Nat → St
  | [] => S
  | i :: r => (S.freeze i).frs r
def St.addRows (S : St) (q : Nat) : List RowC → St
  | [] => S
  | r :: l => (S.newRow q r).addRows (q + 1) l
def St.addBoxes (S : St) (q : Nat) : List BoxC → St
  | [] => S
  | r :: l => (S.newBox q r).addBoxes (q + 1) l
def St.upd (S : St) : List (Nat × BoxC) → St
  | [] => S
  | b :: r => (S.newBox b.1 b.2).upd r
def St.kill (S : St) (id : Nat) : St := { S with rows := fun j => sel j id none (S.rows j), nest := fun j => sel j id none (S.nest j) }
def St.newNest (S : St) (id : Nat) (n : NestC) : St := { S with rows := fun j => sel j id none (S.rows j), nest := fun j => sel j id (some n) (S.nest j) }
def St.putN (S : St) : List (Nat × NestC) → St
  | [] => S
  | b :: r => (S.newNest b.1 b.2).putN r
def St.kills (S : St) : List Nat → St
  | [] => S
  | i :: r => (S.kill i).kills r
def St.killB (S : St) (id : Nat) : St := { S with box := fun j => sel j id none (S.box j) }
def St.killsB (S : St) : List Nat → St
  | [] => S
  | i :: r => (S.killB i).killsB r
def St.puts (S : St) : List (Nat × RowC) → St
  | [] => S
  | r :: l => (S.newRow r.1 r.2).puts l
def St.app (S : St) (q : Nat) (δ : Dl) : St := (((((((S.frs δ.fz).kills δ.kl).killsB δ.kb).addRows q δ.nr).puts δ.nw).addBoxes q δ.nb).upd δ.ub).putN δ.nn
def St.bump (S : St) : St := { S with nx := S.nx + 8 }
def putK {R : Type} (n : NS) (dst : Option Tmp) (v : SL) (S : St) (K : St → Option R) : Option R :=
  match dst with
  | none => K S
  | some d => match Nat.blt d n.hi, n.ar.contains d with
    | true, false => K (S.set d v)
    | _, _ => none
def setSl (dst : Option Tmp) (s : SL) (sl : Nat → SL) : Nat → SL := match dst with
  | some d => fun t => sel t d s (sl t)
  | none => sl
def setCl (dst : Option Tmp) (b : Bool) (cl : Nat → Bool) : Nat → Bool := match dst with
  | some d => fun t => sel t d b (cl t)
  | none => cl
def appK {R : Type} (rw : Nat → Option RowC) (k : Ki) (e : TypeId) (s x : SV) (K : List k.den → List Nat → Option Nat → Option R) : Option R :=
  match s with
  | .nil => rdK rw (.list k) x fun ys fz => if (List.length ys : Int) ≤ lim then K ys fz none else none
  | .row id => match rw id with
    | some r => match r.fz, Nat.beq r.e e with
      | false, true => if h : r.k = k then
          rdK rw (.list k) x fun ys fz => match fz.contains id with
            | true => none
            | false => if (r.xs.length : Int) + (List.length ys : Int) ≤ lim then K ((Ki.cast (k' := .list r.k) (k := .list k) (by rw [h]) r.xs : List k.den) ++ ys) fz (some id) else none
        else none
      | _, _ => none
    | none => none
  | _ => none
def inKp (T : Tys) : Option Tmp → Bool
  | some d => T.kp.contains d
  | none => false
def appendK {R : Type} (T : Tys) (sh : Bool) (t u : TypeId) (S : St) (s x : SV) (q : Nat) (K : SV → St → Option R) : Option R :=
  match Nat.beq t u, T.kind t, look T.sl t with
  | true, some (.list k), some e => appK S.rows k e s x fun zs fz d => match sh, d with
    | true, some id => match S.rows id with
      | some rr => K (.val (.list k) zs) ((S.frs fz).newRow id ⟨rr.e, rr.k, rr.xs, true⟩)
      | none => none
    | _, _ => K (.row q) ((match d with | some id => (S.frs fz).kill id | none => S.frs fz).newRow q ⟨e, k, zs, false⟩)
  | false, some (.list k), some e => match s, x, T.kind u with
    | .nil, .val (.int _) n, some (.int _) => if 0 < (n : Int) then (if (n : Int) ≤ lim then K (.row q) (S.newRow q ⟨e, k, List.replicate (Int.toNat n) k.zero, false⟩) else none) else none
    | _, _, _ => none
  | _, _, _ => none
def storeK {R : Type} (T : Tys) (t : TypeId) (S : St) (a : SV) (v : SV) (K : St → Option R) : Option R :=
  match a with
  | .ptr b o => match S.box b with
    | some B => match T.kind t with
      | some (.pair k1 k2) => match v with
        | .val k x => if k = Ki.pair k1 k2 then (match takeC B.cs o, dropC B.cs (o + k.sz) with
          | some pre, some post => K (S.newBox b ⟨B.t, pre ++ cellsSV k x ++ post⟩)
          | _, _ => none) else none
        | .bld k x ns => if k = Ki.pair k1 k2 then (match takeC B.cs o, dropC B.cs (o + k.sz), setNils (cellsSV k x) ns with
          | some pre, some post, some cs => K (S.newBox b ⟨B.t, pre ++ cs ++ post⟩)
          | _, _, _ => none) else none
        | _ => none
      | some (.arr n k1) => match v with
        | .val k x => if k = Ki.arr n k1 then (match takeC B.cs o, dropC B.cs (o + k.sz) with
          | some pre, some post => K (S.newBox b ⟨B.t, pre ++ cellsSV k x ++ post⟩)
          | _, _ => none) else none
        | _ => none
      | _ => match T.one t, takeC B.cs o, dropC B.cs (o + 1) with
        | true, some pre, some post => match v with
          | .val k x => match k.agg with
            | false => K (S.newBox b ⟨B.t, pre ++ [.val k x] ++ post⟩)
            | true => none
          | .nil => K (S.newBox b ⟨B.t, pre ++ [.nil] ++ post⟩)
          | .ptr b' o' => K (S.newBox b ⟨B.t, pre ++ [.ptr b' o'] ++ post⟩)
          | .row id => match S.rows id with
            | some _ => K (S.newBox b ⟨B.t, pre ++ [.row id] ++ post⟩)
            | none => none
          | _ => none
        | _, _, _ => none
    | none => none
  | .ael b o n sz i => match S.box b with
    | some B => match takeC B.cs o, dropC B.cs o with
      | some pre, some (.val (.arr n' k) xs :: post) => match Nat.beq n n', Nat.beq sz k.sz with
        | true, true => if T.kind t = some k then rdK S.rows k v fun y fz => K ((S.frs fz).newBox b ⟨B.t, pre ++ [.val (.arr n' k) (List.set xs i y)] ++ post⟩) else none
        | _, _ => none
      | _, _ => none
    | none => none
  | .elem id sz i o => match S.rows id with
    | some r => match r.fz, Nat.beq sz r.k.sz, T.kind t with
      | false, true, some kt => rdK S.rows kt v fun y fz => match fz.contains id, Ki.setO kt y r.k o (r.xs.getD i r.k.zero) with
        | false, some z => K ((S.frs fz).newRow id ⟨r.e, r.k, r.xs.set i z, false⟩)
        | _, _ => none
      | _, _, _ => none
    | none => none
  | _ => none
/-- what is done with a row of rows of one's own -/
def nestOf (S : St) : SL → Bool
  | .one (.row id) => (S.nest id).isSome
  | .one (.elem id 1 _ 0) => (S.nest id).isSome
  | _ => false
def memT (l : List Nat) : Option Tmp → Bool
  | some d => memN d l
  | none => false
def isNest (T : Tys) (o : Oper) (S : St) : Bool := match o.op with
  | .makeSlice _ _ _ => memT T.ns o.dst
  | .assign x => memT T.nf o.dst && nestOf S (opv S.sl x)
  | .indexAddr _ x _ => nestOf S (opv S.sl x)
  | .load _ a => nestOf S (opv S.sl a)
  | .store _ a _ => nestOf S (opv S.sl a)
  | _ => false
def nestK {R : Type} (T : Tys) (o : Oper) (S : St) (K : SL → St → Option R) : Option R := match o.op with
  | .makeSlice t l c => match sameOp l c, opv S.sl l, T.kind t, look T.sl t with
    | true, .one (.val (.int .i64) n), some (.list (.list k)), some e => match look T.sl e, look T.zo e with
      | some e', some [.c (.slice none 0 0)] => if 0 ≤ (n : Int) then (if (n : Int) ≤ lim then K (.one (.row S.nx)) (S.newNest S.nx ⟨e, e', k, List.replicate (Int.toNat n) [], none⟩) else none) else none
      | _, _ => none
    | _, _, _, _ => none
  | .indexAddr t x i => match opv S.sl x, opv S.sl i with
    | .one (.row id), .one (.val (.int _) j) => match S.nest id with
      | some n => if T.kind t = some (.list (.list n.k)) then (if 0 ≤ (j : Int) then (if (j : Int) < ((List.length n.xs : Nat) : Int) then K (.one (.elem id 1 (Int.toNat j) 0)) S else none) else none) else none
      | none => none
    | _, _ => none
  | .load t a => match opv S.sl a with
    | .one (.elem id 1 i 0) => match S.nest id with
      | some n => match n.hole with
        | none => if T.kind t = some (.list n.k) then K (.one (.row S.nx)) ((S.newRow S.nx ⟨n.t, n.k, List.getD n.xs i [], false⟩).newNest id { n with hole := some i }) else none
        | some _ => none
      | none => none
    | _ => none
  | .store t a x => match opv S.sl a, opv S.sl x with
    | .one (.elem id 1 i 0), .one (.row r) => match S.nest id, S.rows r with
      | some n, some rr => match rr.fz, Nat.beq rr.e n.t && !Nat.beq r id, n.hole with
        | false, true, some h => if h = i then (if hk : Ki.list rr.k = .list n.k then (if T.kind t = some (.list n.k) then K (.one .undef) ((S.kill r).newNest id { n with xs := List.set n.xs i (Ki.cast hk rr.xs), hole := none }) else none) else none) else none
        | _, _, _ => none
      | _, _ => none
    | _, _ => none
  | .assign x => match opv S.sl x with
    | .one (.row id) => match S.nest id with
      | some n => match n.hole, Nat.blt 0 n.k.sz with
        | none, true => K (.one (.val (.list (.list n.k)) n.xs)) (S.freeze id)
        | _, _ => none
      | none => none
    | _ => none
  | _ => none
def stepK0 {R : Type} (T : Tys) (D : FuncId → Nat → Option Den) (n : NS) (o : Oper) (S : St) (K : St → Option R) : Option R :=
  match o.op with
  | .store t a x => match opv S.sl a, opv S.sl x with
    | .one a, .one v => storeK T t S a v fun S' => putK n o.dst (.one .undef) S'.bump K
    | _, _ => none
  | .call ⟨.builtin .append, xs, ts⟩ => match xs.toList.map (opv S.sl), ts.toList with
    | [.one s, .one x], [t, u] => appendK T (inKp T o.dst) t u S s x S.nx fun r S' => putK n o.dst (.one r) S'.bump K
    | _, _ => none
  | _ => evalQ T D o (opv S.sl) S.rows S.box S.nx fun δ => putK n o.dst δ.v (S.app S.nx δ).bump K
def stepK {R : Type} (T : Tys) (D : FuncId → Nat → Option Den) (n : NS) (o : Oper) (S : St) (K : St → Option R) : Option R :=
  match isNest T o S with
  | true => nestK T o S fun v S' => putK n o.dst v S'.bump K
  | false => stepK0 T D n o S K
/-- an operation's guard: it is wanted, or it isn't -/
def guardK {R : Type} (n : NS) (ops : Array Oper) (o : Oper) (S : St) (yes : St → Option R) (K : St → Option R) : Option R :=
  match o.guard with
  | none => yes S
  | some (j, want) => match (ops[j]?).bind (·.dst) with
    | some d => match S.sl d with
      | .one (.val .bool b) =>
        if (b : Bool) = true then (match want with
          | true => yes (S.set d (.one (.val .bool true)))
          | false => putK n o.dst (.one .gone) (S.set d (.one (.val .bool true))) K)
        else (match want with
          | true => putK n o.dst (.one .gone) (S.set d (.one (.val .bool false))) K
          | false => yes (S.set d (.one (.val .bool false))))
      | .one .gone => putK n o.dst (.one .gone) S K
      | _ => none
    | none => none
def runOps {R : Type} (T : Tys) (D : FuncId → Nat → Option Den) (n : NS) (ops : Array Oper) : List Oper → St → (St → Option R) → Option R
  | [], S, K => K S
  | o :: r, S, K => guardK n ops o S (fun S => stepK T D n o S fun S' => runOps T D n ops r S' K) (fun S' => runOps T D n ops r S' K)
/-- how an operation of a region that draws is looked at: carried out in its turn; taken first, for it only reads -/
inductive Way where
  | step | cur | mem | late | sync
/-- the order in which a region that draws is walked; X: the temporaries that hold or point to what none of its operations writes -/
structure Draw where
  X : List Nat
  p : List (Way × Nat)
def objs (sl : Nat → SL) : List Nat → List (Nat ⊕ Nat)
  | [] => []
  | t :: r => match sl t with
    | .one (.row id) => .inl id :: objs sl r
    | .one (.ptr b _) => .inr b :: objs sl r
    | _ => objs sl r
def clSl (cl : Nat → Bool) (sl : Nat → SL) (t : Nat) : SL := match cl t with
  | true => sl t
  | false => .one .undef
def memI (i : Nat ⊕ Nat) : List (Nat ⊕ Nat) → Bool
  | [] => false
  | y :: r => sameI y i || memI i r
def apartI (X : List (Nat ⊕ Nat)) : List (Nat ⊕ Nat) → Bool
  | [] => true
  | y :: r => !memI y X && apartI X r
/-- what an operation writes -/
def Dl.tc (δ : Dl) : List (Nat ⊕ Nat) := δ.kl.map Sum.inl ++ δ.kb.map Sum.inr
def isNilL : List Nat → Bool
  | [] => true
  | _ => false
/-- what the operation may write of rows and boxes -/
def stepT {R : Type} (T : Tys) (D : FuncId → Nat → Option Den) (n : NS) (o : Oper) (S : St) (X : List (Nat ⊕ Nat)) (K : St → Option R) : Option R :=
  match o.op with
  | .store t a x => match opv S.sl a, opv S.sl x with
    | .one a, .one v => match (match a with | .ptr b _ => !memI (.inr b) X | .ael b _ _ _ _ => !memI (.inr b) X | .elem id _ _ _ => !memI (.inl id) X | _ => false) with
      | true => storeK T t S a v fun S' => putK n o.dst (.one .undef) S'.bump K
      | false => none
    | _, _ => none
  | .call ⟨.builtin .append, xs, ts⟩ => match xs.toList.map (opv S.sl), ts.toList with
    | [.one s, .one x], [t, u] => match (match s with | .row id => !memI (.inl id) X | _ => !memI (.inl S.nx) X) with
      | true => appendK T (inKp T o.dst) t u S s x S.nx fun r S' => putK n o.dst (.one r) S'.bump K
      | false => none
    | _, _ => none
  | _ => evalQ T D o (opv S.sl) S.rows S.box S.nx fun δ => match apartI X δ.tc with
    | true => putK n o.dst δ.v (S.app S.nx δ).bump K
    | false => none
/-- a step beside what is still to come: ps: the names that are set aside for it -/
def awayI (q : Nat) : List (Nat ⊕ Nat) → Bool
  | [] => true
  | .inl i :: r => (Nat.blt i q || Nat.ble (q + 8) i) && awayI q r
  | .inr i :: r => (Nat.blt i q || Nat.ble (q + 8) i) && awayI q r
def awayL (tc : List (Nat ⊕ Nat)) (fz : List Nat) : List Nat → Bool
  | [] => true
  | q :: r => awayI q tc && (awayI q (fz.map Sum.inl) && awayL tc fz r)
def stepP {R : Type} (T : Tys) (D : FuncId → Nat → Option Den) (n : NS) (o : Oper) (S : St) (X : List (Nat ⊕ Nat)) (ps : List Nat) (K : St → Option R) : Option R :=
  match o.op with
  | .store .. => none
  | .call ⟨.builtin .append, _, _⟩ => none
  | _ => evalQ T D o (opv S.sl) S.rows S.box S.nx fun δ => match apartI X δ.tc, awayL δ.tc δ.fz ps with
    | true, true => putK n o.dst δ.v (S.app S.nx δ).bump K
    | _, _ => none
/-- one operation of a region that draws: rw, bx: the rows and boxes at its beginning; cl: which temporaries are told by these -/
def nodeK {R : Type} (T : Tys) (D : FuncId → Nat → Option Den) (n : NS) (ops : Array Oper) (X : List (Nat ⊕ Nat)) (rw : Nat → Option RowC) (bx : Nat → Option BoxC) (ps : List Nat) (m : Way) (i : Nat) (cl : Nat → Bool) (S : St) (K : St → (Nat → Bool) → Option R) : Option R :=
  match ops[i]? with
  | none => none
  | some o => guardK n ops o S (fun S => match m with
    | .step => match ps with
      | [] => stepT T D n o S X fun S' => K S' (setCl o.dst false cl)
      | _ => stepP T D n o S X ps fun S' => K S' (setCl o.dst false cl)
    | .cur => evalQ T D o (opv S.sl) S.rows S.box S.nx fun δ => match δ.rd, awayL [] δ.fz ps with
      | .pure, true => putK n o.dst δ.v (S.frs δ.fz).bump fun S' => K S' (setCl o.dst false cl)
      | _, _ => none
    | .mem => evalQ T D o (opv (clSl cl S.sl)) rw bx S.nx fun δ => match isNilL δ.fz, (match δ.rd with | .pure => true | .sh => true | .ob i => memI i X | .eff => false) with
      | true, true => putK n o.dst δ.v S.bump fun S' => K S' (setCl o.dst true cl)
      | _, _ => none
    | _ => none) (fun S' => K S' (setCl o.dst false cl))
/-- an operation that may come at any time from here on, until what waits is put in -/
structure Pe where
  i : Nat
  q : Nat
  dst : Nat
  o : Oper
  sl : Nat → SL
  δ : Dl
def hasTmp (t : Nat) : List Operand → Bool
  | [] => false
  | .tmp u :: r => match Nat.beq u t with
    | true => true
    | false => hasTmp t r
  | _ :: r => hasTmp t r
def opMask (o : Oper) (t : Nat) : Bool := hasTmp t o.op.operands.toList
def lateOk (δ : Dl) : Bool := match δ.fz, δ.kl, δ.kb, δ.nw, δ.ub, δ.nn with
  | [], [], [], [], [], [] => match δ.nr, δ.nb with
    | [], [] => true
    | [_], [] => true
    | [], [_] => true
    | _, _ => false
  | _, _, _, _, _, _ => false
def lateOp : Op → Bool
  | .convert .. => true
  | .buildSlice .. => true
  | .makeSlice .. => true
  | .alloc .. => true
  | .call ⟨.value _, _, _⟩ => true
  | _ => false
def lateK {R : Type} (T : Tys) (D : FuncId → Nat → Option Den) (n : NS) (ops : Array Oper) (i : Nat) (S : St) (K : Pe → St → Option R) : Option R :=
  match ops[i]? with
  | none => none
  | some o => match o.guard, o.dst, lateOp o.op with
    | none, some d, true => evalQ T D o (opv (clSl (opMask o) S.sl)) (fun _ => none) (fun _ => none) S.nx fun δ => match lateOk δ with
        | true => putK n (some d) (.one .undef) S.bump fun S' => K ⟨i, S.nx, d, o, clSl (opMask o) S.sl, δ⟩ S'
        | false => none
    | _, _, _ => none
def syncSt : List Pe → St → St
  | [], S => S
  | p :: r, S => ((syncSt r S).app p.q p.δ).set p.dst p.δ.v
def peQ : List Pe → List Nat
  | [] => []
  | p :: r => p.q :: peQ r
/-- one way through it -/
def runPath {R : Type} (T : Tys) (D : FuncId → Nat → Option Den) (n : NS) (ops : Array Oper) (X : List (Nat ⊕ Nat)) (rw : Nat → Option RowC) (bx : Nat → Option BoxC) : List (Way × Nat) → (Nat → Bool) → List Pe → St → (St → Option R) → Option R
  | [], _, [], S, K => K S
  | [], _, _ :: _, _, _ => none
  | (.late, i) :: r, cl, pd, S, K => lateK T D n ops i S fun p S' => runPath T D n ops X rw bx r (setCl (some p.dst) false cl) (p :: pd) S' K
  | (.sync, _) :: r, cl, pd, S, K => runPath T D n ops X rw bx r cl [] (syncSt pd S) K
  | (m, i) :: r, cl, pd, S, K => nodeK T D n ops X rw bx (peQ pd) m i cl S fun S' cl' => runPath T D n ops X rw bx r cl' pd S' K
inductive Out where
  | normal | exit (id : Nat) | ret
def outIn {R : Type} (id : Nat) (K : Out → St → Option R) : Out → St → Option R
  | .exit i, S => match Nat.beq i id with
    | true => K .normal S
    | false => K (.exit i) S
  | o, S => K o S
/-- a loop's ways out -/
@[reducible] def wayDen : List (Out × List (Nat × CS)) → Type
  | [] => Empty
  | [w] => CSs.den w.2
  | w :: r => CSs.den w.2 ⊕ wayDen r
def goWay {R : Type} : (ws : List (Out × List (Nat × CS))) → wayDen ws → (Out → St → Option R) → Option R
  | [], _, _ => none
  | [w], y, K => K w.1 (canon w.2 y)
  | w :: w' :: r, y, K => match (y : CSs.den w.2 ⊕ wayDen (w' :: r)) with
    | .inl z => K w.1 (canon w.2 z)
    | .inr z => goWay (w' :: r) z K
/-- the answer of a loop, or of a region that draws -/
structure Hint where
  L : List (Nat × CS)
  ws : List (Out × List (Nat × CS))
  f : CSs.den L → Option (wayDen ws)
/-- what stands in the state where code meets -/
def rdH (L : List (Nat × CS)) (S : St) : Option (CSs.den L) := match rdL S.rows S.box S.nest S.sl [] L with
  | some y => match okIds y.2.1 y.2.2 with
    | true => some y.1
    | false => none
  | none => none
/-- what is told of a body's parts: its loops; its regions that draw, by a function or by their order; how often a loop goes round -/
structure Hints where
  blk : Nat → Option Hint
  reg : Nat → Option Hint
  drw : Nat → Option Draw
  unr : Nat → Option Nat
  jn : Nat → Option (List (Out × List (Nat × CS)))
/-- where the machine stands at a way out -/
def mkW {R : Type} : (o : Out) → (S : St) → (ws : List (Out × List (Nat × CS))) → (wayDen ws → Option R) → Option R
  | o, S, [], _ => none
  | o, S, [w], K => match sameO o w.1 with
    | true => match rdH w.2 S with
      | some y => K y
      | none => none
    | false => none
  | o, S, w :: w' :: r, K => match sameO o w.1 with
    | true => match rdH w.2 S with
      | some y => K (Sum.inl y)
      | none => none
    | false => mkW o S (w' :: r) fun y => K (Sum.inr y)
where sameO : Out → Out → Bool
  | .normal, .normal => true
  | .ret, .ret => true
  | .exit a, .exit b => Nat.beq a b
  | _, _ => false
/-- how many rows and boxes -/
def CK.nOb : List CK → Nat
  | [] => 0
  | .v _ :: r => CK.nOb r
  | .own _ _ :: r => CK.nOb r + 1
def Cp.nOb : List Cp → Nat
  | [] => 0
  | .v _ :: r => Cp.nOb r
  | .box _ cs :: r => CK.nOb cs + 1 + Cp.nOb r
  | .at _ :: r => Cp.nOb r
def CS.nOb : CS → Nat
  | .v _ => 0
  | .own _ _ => 1
  | .nest _ _ _ => 1
  | .nil => 0
  | .box _ cs => CK.nOb cs + 1
  | .at _ => 0
  | .ra _ => 0
  | .fn _ ps => Cp.nOb ps
def nObL : List (Nat × CS) → Nat
  | [] => 0
  | c :: r => c.2.nOb + nObL r
/-- where the two ways of a choice meet -/
def jnAt (H : Hints) (t : Nat) : Option (List (Out × List (Nat × CS))) := match H.jn t with
  | some ws => match ws.all fun w => Nat.ble (nObL w.2) 1000 with
    | true => some ws
    | false => none
  | none => none
def jnOf (H : Hints) : Operand → Option (List (Out × List (Nat × CS)))
  | .tmp t => jnAt H t
  | _ => none
/-- a region -/
def runReg {R : Type} (T : Tys) (D : FuncId → Nat → Option Den) (H : Hints) (n : NS) (id : Nat) (ops : Array Oper) (draw : Bool) (S : St) (K : Out → St → Option R) : Option R := match draw with
  | false => runOps T D n ops ops.toList S (K .normal)
  | true => match H.reg id with
    | some h => match rdH h.L S with
      | some x => (h.f x).bind fun y => goWay h.ws y K
      | none => none
    | none => match H.drw id with
      | some d => runPath T D n ops (objs S.sl d.X) S.rows S.box d.p (fun _ => true) [] S (K .normal)
      | none => none
def loopN {R : Type} (id : Nat) (body : St → (Out → St → Option R) → Option R) : Nat → St → (Out → St → Option R) → Option R
  | 0, _, _ => none
  | k + 1, S, K => body S fun o S' => match o with
    | .normal => loopN id body k S' K
    | o => outIn id K o S'
def run (T : Tys) (D : FuncId → Nat → Option Den) (H : Hints) (n : NS) : {R : Type} → Code → St → (Out → St → Option R) → Option R
  | _, .skip, S, K => K .normal S
  | _, .region id ops draw, S, K => match jnAt H (1000000 + id) with
    | some ws => (runReg T D H n id ops draw (R := wayDen ws) S (fun o S' => mkW o S' ws some)).bind fun y => goWay ws y K
    | none => runReg T D H n id ops draw S K
  | _, .seq a b, S, K => run T D H n a S fun o S' => match o with
    | .normal => run T D H n b S' K
    | o => K o S'
  | _, .cond c a b, S, K => match jnOf H c with
    | some ws => (match opv S.sl c with
      | .one (.val .bool t) => if (t : Bool) = true then run T D H n (R := wayDen ws) a S (fun o S' => mkW o S' ws some) else run T D H n (R := wayDen ws) b S (fun o S' => mkW o S' ws some)
      | _ => none).bind fun y => goWay ws y K
    | none => match opv S.sl c with
      | .one (.val .bool t) => if (t : Bool) = true then run T D H n a S K else run T D H n b S K
      | _ => none
  | _, .block id c, S, K => match H.blk id with
    | some h => match rdH h.L S with
      | some x => (h.f x).bind fun y => goWay h.ws y K
      | none => none
    | none => match H.unr id with
      | some k => match c with
        | .loop c => loopN id (fun S K => run T D H n c S K) k S K
        | _ => none
      | none => run T D H n c S (outIn id K)
  | _, .ret, S, K => K .ret S
  | _, .exit id, S, K => K (.exit id) S
  | _, _, _, _ => none
def bodyOf (P : Program) (f : Nat) : Code := ((P.funcs[f]?).bind (·.body)).getD .ret
end Go.Proofs.YtlioalaehkohlaaDoor.Vm
