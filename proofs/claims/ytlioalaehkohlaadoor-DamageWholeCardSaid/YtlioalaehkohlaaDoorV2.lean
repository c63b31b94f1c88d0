/- The machine's steps. Conditions: as each theorem states them. -/
import Derived.Test.YtlioalaehkohlaaDoorV1
namespace Go.Proofs.YtlioalaehkohlaaDoor.Vm
open Go Go.RowKit
set_option linter.unusedVariables false
set_option linter.unusedSimpArgs false
/-- a nought of a type, cell by cell, or an array -/
inductive Zc where
  | c (v : Value)
  | a (k : Ki)
structure Tys where
  kd : List (Nat × Ki)
  sl : List (Nat × TypeId)
  fo : List (Nat × List Nat)
  zo : List (Nat × List Zc)
  pt : List (Nat × Unit)
  gl : List (Nat × GV) := []
  ar : List (Nat × (Nat × TypeId)) := []
  kp : List Nat := []
  nls : List (Nat × Ki) := []
  ns : List Nat := []
  nf : List Nat := []
  bs : List Nat := []
  ps : List (Nat × TypeId) := []
  cm : List Nat := []
def Tys.kind (T : Tys) (t : TypeId) : Option Ki := look T.kd t
/-- what a variable's cell holds: a value, or a slice of the call's own -/
inductive CK where
  | v (k : Ki)
  | own (e : TypeId) (k : Ki)
/-- what a function value has captured -/
inductive Cp where
  | v (k : Ki)
  | box (t : TypeId) (cs : List CK)
  | at (j : Nat)
/-- what is known of a temporary where code meets; what a function is handed, what it answers -/
inductive CS where
  | v (k : Ki)
  | own (e : TypeId) (k : Ki)
  | nil
  | box (t : TypeId) (cs : List CK)
  | at (j : Nat)
  | fn (f : FuncId) (ps : List Cp)
  | nest (e t : TypeId) (k : Ki)
  | ra (j : Nat)
@[reducible] def CK.den : CK → Type
  | .v a => a.den
  | .own _ a => List a.den
@[reducible] def CKs.den : List CK → Type
  | [] => Unit
  | c :: r => c.den × CKs.den r
@[reducible] def Cp.den : Cp → Type
  | .v a => a.den
  | .box _ cs => CKs.den cs
  | .at _ => Unit
@[reducible] def Cps.den : List Cp → Type
  | [] => Unit
  | c :: r => c.den × Cps.den r
@[reducible] def CS.den : CS → Type
  | .v a => a.den
  | .own _ a => List a.den
  | .nil => Unit
  | .box _ cs => CKs.den cs
  | .at _ => Unit
  | .fn _ ps => Cps.den ps
  | .nest _ _ k => List (List k.den)
  | .ra _ => Unit
@[reducible] def CSs.den : List (Nat × CS) → Type
  | [] => Unit
  | c :: r => c.2.den × CSs.den r
inductive Ob where
  | row (r : RowC)
  | box (b : BoxC)
  | nest (n : NestC)
/-- cells, and the rows in them, numbered from i on -/
def ckV : (cs : List CK) → CKs.den cs → Nat → List SV × List Ob
  | [], _, _ => ([], [])
  | .v k :: cs, x, i => (.val k x.1 :: (ckV cs x.2 i).1, (ckV cs x.2 i).2)
  | .own e k :: cs, x, i => (.row i :: (ckV cs x.2 (i + 1)).1, .row ⟨e, k, x.1, false⟩ :: (ckV cs x.2 (i + 1)).2)
def cpV : (ps : List Cp) → Cps.den ps → Nat → List SV × List Ob
  | [], _, _ => ([], [])
  | .v k :: ps, x, i => (.val k x.1 :: (cpV ps x.2 i).1, (cpV ps x.2 i).2)
  | .box t cs :: ps, x, i => (.ptr i 0 :: (cpV ps x.2 (i + 1 + (ckV cs x.1 (i + 1)).2.length)).1, .box ⟨t, (ckV cs x.1 (i + 1)).1⟩ :: ((ckV cs x.1 (i + 1)).2 ++ (cpV ps x.2 (i + 1 + (ckV cs x.1 (i + 1)).2.length)).2))
  | .at j :: ps, x, i => (.ptr j 0 :: (cpV ps x.2 i).1, (cpV ps x.2 i).2)
def csV : (c : CS) → c.den → Nat → SL × List Ob
  | .v k, x, _ => (.one (.val k x), [])
  | .own e k, x, i => (.one (.row i), [.row ⟨e, k, x, false⟩])
  | .nil, _, _ => (.one .nil, [])
  | .box t cs, x, i => (.one (.ptr i 0), .box ⟨t, (ckV cs x (i + 1)).1⟩ :: (ckV cs x (i + 1)).2)
  | .at j, _, _ => (.one (.ptr j 0), [])
  | .fn f ps, x, i => (.fn f (cpV ps x i).1, (cpV ps x i).2)
  | .nest e t k, x, i => (.one (.row i), [.nest ⟨e, t, k, x, none⟩])
  | .ra j, _, _ => (.one (.row j), [])
def canL : (L : List (Nat × CS)) → CSs.den L → Nat → List (Nat × SL) × List Ob
  | [], _, _ => ([], [])
  | c :: L, x, i => ((c.1, (csV c.2 x.1 i).1) :: (canL L x.2 (i + (csV c.2 x.1 i).2.length)).1, (csV c.2 x.1 i).2 ++ (canL L x.2 (i + (csV c.2 x.1 i).2.length)).2)
def obAt : List Ob → Nat → Option Ob
  | [], _ => none
  | o :: r, i => match i with
    | 0 => some o
    | i + 1 => obAt r i
/-- the state that such a list tells -/
def canon (L : List (Nat × CS)) (x : CSs.den L) : St :=
  ⟨fun t => match look (canL L x 0).1 t with
    | some s => s
    | none => .one .undef,
   fun i => match obAt (canL L x 0).2 i with
    | some (.row r) => some r
    | _ => none,
   fun i => match obAt (canL L x 0).2 i with
    | some (.box b) => some b
    | _ => none, 1000,
   fun i => match obAt (canL L x 0).2 i with
    | some (.nest n) => some n
    | _ => none⟩
/-- A function's answer, in numbers and lists: what it is handed, what it answers and leaves in the variables whose addresses it was handed; where the results stand. -/
structure Den where
  lin : List (Nat × CS)
  lout : List (Nat × CS)
  res : List Nat
  mt : List (Option (Nat ⊕ Nat))
  A : Type
  f : CSs.den lin → Option A
  out : A → CSs.den lout
/-- what an operation reads: nothing of memory; what is shared; a row or a box; or it does more than read -/
inductive Rd where
  | eff | pure | sh | ob (i : Nat ⊕ Nat)
structure Dl where
  v : SL
  rd : Rd := .eff
  fz : List Nat := []
  kl : List Nat := []
  kb : List Nat := []
  nr : List RowC := []
  nw : List (Nat × RowC) := []
  nb : List BoxC := []
  ub : List (Nat × BoxC) := []
  nn : List (Nat × NestC) := []
def constV : Value → SV
  | .int k n => .val (.int k) n
  | .bool b => .val .bool b
  | .string s => .val .str s
  | .slice none 0 0 => .nil
  | _ => .undef
def zcV : Zc → SV
  | .c v => constV v
  | .a k => .val k k.zero
def opv (sl : Nat → SL) : Operand → SL
  | .tmp t => sl t
  | .const v => .one (constV v)
  | .global g => .one (.glob g)
  | .func f => .fn f []
def Ki.cast {k' k : Ki} (h : k' = k) (x : k'.den) : k.den := h ▸ x
def rd1 {R : Type} (rw : Nat → Option RowC) : (k : Ki) → SV → (k.den → List Nat → Option R) → Option R
  | k, .val k' x, K => if h : k' = k then K (Ki.cast h x) [] else none
  | .list _, .nil, K => K [] []
  | k, .nn k' xs, K => if h : Ki.list k' = k then K (Ki.cast h xs) [] else none
  | k, .row id, K => match rw id with
    | some r => if h : Ki.list r.k = k then K (Ki.cast h r.xs) [id] else none
    | none => none
  | .ref k, .ref k' x, K => if h : k' = k then K (some (Ki.cast h x)) [] else none
  | _, _, _ => none
/-- a slice of which it is known whether it is nil, as one of which it isn't -/
def unnl : SV → SV
  | .val (.nl k) x => .val (.list k) (Option.getD x [])
  | s => s
def unnlS : SL → SL
  | .one s => .one (unnl s)
  | s => s
def noneE {β R : Type} (l : List β) (K : Option R) : Option R := match l with
  | [] => none
  | _ :: _ => K
/-- a slice that is nil, or has elements -/
def rdN {R : Type} (rw : Nat → Option RowC) (k : Ki) : SV → (Option (List k.den) → List Nat → Option R) → Option R
  | .nil, K => K none []
  | .val (.nl k') x, K => if h : k' = k then K (Ki.cast (show Ki.nl k' = Ki.nl k by rw [h]) x) [] else none
  | .val (.list k') xs, K => if h : k' = k then noneE (xs : List k'.den) (K (some (Ki.cast (show Ki.list k' = Ki.list k by rw [h]) xs)) []) else none
  | .nn k' xs, K => if h : k' = k then K (some (Ki.cast (show Ki.list k' = Ki.list k by rw [h]) xs)) [] else none
  | .row id, K => match rw id with
    | some r => if h : r.k = k then noneE r.xs (K (some (Ki.cast (show Ki.list r.k = Ki.list k by rw [h]) r.xs)) [id]) else none
    | none => none
  | _, _ => none
def rdK {R : Type} (rw : Nat → Option RowC) : (k : Ki) → SV → (k.den → List Nat → Option R) → Option R
  | .nl k, s, K => rdN rw k s K
  | .list k, s, K => rd1 rw (.list k) (unnl s) K
  | k, s, K => rd1 rw k s K
/-- what an address leads to, if it is none of nothing -/
def refK {R : Type} (s : SL) (K : SL → Option R) : Option R := match s with
  | .one (.val (.ref k) x) => Option.bind x fun y => K (.one (.ref k y))
  | s => K s
def Ki.fieldK {R : Type} : (k : Ki) → Nat → k.den → ((k' : Ki) → k'.den → Option R) → Option R
  | .pair a _, 0, x, K => K a x.1
  | .pair _ b, n + 1, x, K => Ki.fieldK b n x.2 K
  | _, _, _, _ => none
/-- a part of a value, some cells on -/
def Ki.getO (k' : Ki) : (k : Ki) → Nat → k.den → Option k'.den
  | .pair a b, 0, x => if h : Ki.pair a b = k' then some (Ki.cast h x) else Ki.getO k' a 0 x.1
  | .pair a b, o + 1, x => match Nat.ble a.sz (o + 1) with
    | true => Ki.getO k' b (o + 1 - a.sz) x.2
    | false => Ki.getO k' a (o + 1) x.1
  | k, 0, x => if h : k = k' then some (Ki.cast h x) else none
  | _, _ + 1, _ => none
/-- a value with a part of it turned -/
def Ki.setO (k' : Ki) (y : k'.den) : (k : Ki) → Nat → k.den → Option k.den
  | .pair a b, 0, x => if h : k' = Ki.pair a b then some (Ki.cast h y) else (match Ki.setO k' y a 0 x.1 with
    | some z => some (z, x.2)
    | none => none)
  | .pair a b, o + 1, x => match Nat.ble a.sz (o + 1) with
    | true => (match Ki.setO k' y b (o + 1 - a.sz) x.2 with
      | some z => some (x.1, z)
      | none => none)
    | false => (match Ki.setO k' y a (o + 1) x.1 with
      | some z => some (z, x.2)
      | none => none)
  | k, 0, x => if h : k' = k then some (Ki.cast h y) else none
  | _, _ + 1, _ => none
def IntKind.topN : IntKind → Nat
  | .i8 => 127 | .i16 => 32767 | .i32 => 2147483647 | .i64 => 9223372036854775807 | .u8 => 255 | .u16 => 65535 | .u32 => 4294967295 | .u64 => 18446744073709551615
/-- a number in its kind's bounds is as it is: asked first, so that the kernel does not count -/
def wr (k : IntKind) (x : Int) : Int := match x with
  | .ofNat n => match Nat.ble n (IntKind.topN k) with
    | true => .ofNat n
    | false => k.wrap (.ofNat n)
  | .negSucc n => match k.signed, Nat.ble n (IntKind.topN k) with
    | true, true => .negSucc n
    | _, _ => k.wrap (.negSucc n)
theorem wrap_pos (k : IntKind) (n : Nat) (h : n ≤ IntKind.topN k) : k.wrap (.ofNat n) = .ofNat n := by
  rw [Int.ofNat_eq_natCast]
  cases k <;> simp only [IntKind.topN] at h <;> simp [IntKind.wrap, IntKind.bits, IntKind.signed] <;> omega
theorem wrap_neg (k : IntKind) (n : Nat) (hs : k.signed = true) (h : n ≤ IntKind.topN k) : k.wrap (.negSucc n) = .negSucc n := by
  rw [Int.negSucc_eq]
  cases k <;> simp [IntKind.signed] at hs <;> simp only [IntKind.topN] at h <;> simp only [IntKind.wrap, IntKind.bits, IntKind.signed, Bool.true_and, decide_eq_true_eq, show (2 : Int) ^ 8 = 256 from rfl, show (2 : Int) ^ 16 = 65536 from rfl, show (2 : Int) ^ 32 = 4294967296 from rfl, show (2 : Int) ^ 64 = 18446744073709551616 from rfl, show (2 : Int) ^ (8 - 1) = 128 from rfl, show (2 : Int) ^ (16 - 1) = 32768 from rfl, show (2 : Int) ^ (32 - 1) = 2147483648 from rfl, show (2 : Int) ^ (64 - 1) = 9223372036854775808 from rfl] <;> (split <;> omega)
theorem wr_eq (k : IntKind) (x : Int) : wr k x = k.wrap x := by
  cases x with
  | ofNat n =>
    show (match Nat.ble n (IntKind.topN k) with | true => Int.ofNat n | false => k.wrap (.ofNat n)) = _
    split
    · rename_i h; exact (wrap_pos k n (Nat.le_of_ble_eq_true h)).symm
    · rfl
  | negSucc n =>
    show (match k.signed, Nat.ble n (IntKind.topN k) with | true, true => Int.negSucc n | _, _ => k.wrap (.negSucc n)) = _
    split
    · rename_i h1 h; exact (wrap_neg k n h1 (Nat.le_of_ble_eq_true h)).symm
    · rfl
def bits2 (k : IntKind) (f : BitVec k.bits → BitVec k.bits → BitVec k.bits) (x y : Int) : Int := wr k ((f (BitVec.ofInt k.bits x) (BitVec.ofInt k.bits y)).toNat : Int)
def band (k : IntKind) (x y : Int) : Int := bits2 k (· &&& ·) x y
def bor (k : IntKind) (x y : Int) : Int := bits2 k (· ||| ·) x y
def bxor (k : IntKind) (x y : Int) : Int := bits2 k (· ^^^ ·) x y
def bnot (k : IntKind) (x : Int) : Int := bxor k (if k.signed then -1 else k.max) x
def shlV (k : IntKind) (x y : Int) : Int := wr k (x * 2 ^ min y.toNat k.bits)
def shrV (k : IntKind) (x y : Int) : Int := x.fdiv (2 ^ min y.toNat k.bits)
def intK {R : Type} (op : BinOp) (k : IntKind) (x y : Int) (K : SV → Option R) : Option R :=
  match op with
  | .add => K (.val (.int k) (wr k (x + y)))
  | .sub => K (.val (.int k) (wr k (x - y)))
  | .mul => K (.val (.int k) (wr k (x * y)))
  | .quo => if y = 0 then none else K (.val (.int k) (wr k (x.tdiv y)))
  | .rem => if y = 0 then none else K (.val (.int k) (x.tmod y))
  | .and => K (.val (.int k) (band k x y))
  | .or => K (.val (.int k) (bor k x y))
  | .xor => K (.val (.int k) (bxor k x y))
  | .eql => K (.val .bool (x == y))
  | .neq => K (.val .bool (x != y))
  | .lss => K (.val .bool (decide (x < y)))
  | .leq => K (.val .bool (decide (x ≤ y)))
  | .gtr => K (.val .bool (decide (x > y)))
  | .geq => K (.val .bool (decide (x ≥ y)))
  | _ => none
/-- comparison -/
def Ki.eqB : (k : Ki) → k.den → k.den → Bool
  | .int _, x, y => (x : Int) == y
  | .bool, x, y => (x : Bool) == y
  | .str, x, y => (x : ByteArray).toList == (y : ByteArray).toList
  | .unit, _, _ => true
  | .list _, _, _ => false
  | .arr _ _, _, _ => false
  | .ref _, _, _ => false
  | .nl _, _, _ => false
  | .pair a b, x, y => a.eqB x.1 y.1 && b.eqB x.2 y.2
def memN (d : Nat) : List Nat → Bool
  | [] => false
  | e :: r => Nat.beq e d || memN d r
def Tys.cmB (T : Tys) (t : TypeId) (k : Ki) : Bool := match memN t T.cm, T.kind t with
  | true, some k' => decide (k' = k)
  | _, _ => false
def binK {R : Type} (T : Tys) (t : TypeId) (op : BinOp) (a b : SV) (K : SV → Option R) : Option R :=
  match a, b with
  | .val (.int k) x, .val (.int k') y =>
    match op with
    | .shl => if (y : Int) < 0 then none else K (.val (.int k) (shlV k x y))
    | .shr => if (y : Int) < 0 then none else K (.val (.int k) (shrV k x y))
    | op => match decide (k = k') with
      | true => intK op k x y K
      | false => none
  | .val .bool x, .val .bool y => if T.kind t = some .bool then
      match op with
      | .eql => K (.val .bool ((x : Bool) == y))
      | .neq => K (.val .bool (!((x : Bool) == y)))
      | _ => none
    else none
  | .val (.nl _) x, .nil => match op, T.kind t with
    | .eql, some (.list _) => K (.val .bool (Option.isNone x))
    | .neq, some (.list _) => K (.val .bool (!(Option.isNone x)))
    | _, _ => none
  | .nil, .nil => match op, T.kind t with
    | .eql, some (.list _) => K (.val .bool true)
    | .neq, some (.list _) => K (.val .bool false)
    | _, _ => none
  | .nn _ _, .nil => match op, T.kind t with
    | .eql, some (.list _) => K (.val .bool false)
    | .neq, some (.list _) => K (.val .bool true)
    | _, _ => none
  | .val .str x, .val .str y =>
    match op with
    | .eql => K (.val .bool ((x : ByteArray).toList == (y : ByteArray).toList))
    | .neq => K (.val .bool (!((x : ByteArray).toList == (y : ByteArray).toList)))
    | _ => none
  | .val (.pair a b) x, .val k' y => if h : k' = Ki.pair a b then (match T.cmB t (.pair a b), op with
    | true, .eql => K (.val .bool (Ki.eqB (.pair a b) x (Ki.cast h y)))
    | true, .neq => K (.val .bool (!(Ki.eqB (.pair a b) x (Ki.cast h y))))
    | _, _ => none) else none
  | _, _ => none
def unK {R : Type} (op : UnOp) (a : SV) (K : SV → Option R) : Option R :=
  match op, a with
  | .not, .val .bool x => K (.val .bool (!(x : Bool)))
  | .neg, .val (.int k) x => K (.val (.int k) (wr k (0 - (x : Int))))
  | .xor, .val (.int k) x => K (.val (.int k) (bnot k x))
  | _, _ => none
def sbytes (s : ByteArray) : List Int := s.data.toList.map fun b => (b.toNat : Int)
def strOf (l : List Int) : ByteArray := ⟨(l.map fun n => UInt8.ofNat n.toNat).toArray⟩
def lenK {R : Type} (rw : Nat → Option RowC) (s : SV) (K : SV → Option R) : Option R :=
  match unnl s with
  | .val (.list _) xs => K (.val (.int .i64) (List.length xs : Int))
  | .nn _ xs => K (.val (.int .i64) (List.length xs : Int))
  | .nil => K (.val (.int .i64) (0 : Int))
  | .row id => match rw id with
    | some r => K (.val (.int .i64) (r.xs.length : Int))
    | none => none
  | _ => none
/-- a slice's cut -/
def cutK {R : Type} (n : Nat) (lo hi : Option SL) (K : Nat → Nat → Option R) : Option R :=
  match hi with
  | none => match lo with
    | none => K 0 n
    | some (.one (.val (.int _) l)) => if 0 ≤ (l : Int) then (if (l : Int) ≤ (n : Int) then K (Int.toNat l) n else none) else none
    | _ => none
  | some (.one (.val (.int _) h)) => match lo with
    | none => if 0 ≤ (h : Int) then (if (h : Int) ≤ (n : Int) then K 0 (Int.toNat h) else none) else none
    | some (.one (.val (.int _) l)) => if 0 ≤ (l : Int) then (if (l : Int) ≤ (h : Int) then (if (h : Int) ≤ (n : Int) then K (Int.toNat l) (Int.toNat h) else none) else none) else none
    | _ => none
  | _ => none
def partsK {R : Type} (rw : Nat → Option RowC) (ρ : Operand → SL) (k : Ki) : List (Nat × Operand) → Nat → (List k.den → List Nat → Option R) → Option R
  | [], _, K => K [] []
  | (i, x) :: r, j, K => match Nat.beq i j with
    | true => match ρ x with
      | .one s => rdK rw k s fun v fz => partsK rw ρ k r (j + 1) fun vs fzs => K (v :: vs) (fz ++ fzs)
      | _ => none
    | false => none
/-- a struct's fields: those that are named, in their order; the others are nought -/
def buildK {R : Type} (rw : Nat → Option RowC) (ρ : Operand → SL) : (k : Ki) → Nat → List (Nat × Operand) → (k.den → List Nat → Option R) → Option R
  | .unit, _, [], K => K () []
  | .pair a b, j, [], K => K (Ki.zero (.pair a b)) []
  | .pair a b, j, (i, x) :: r, K => match Nat.beq i j with
    | true => match ρ x with
      | .one s => rdK rw a s fun v fz => buildK rw ρ b (j + 1) r fun vs fzs => K (v, vs) (fz ++ fzs)
      | _ => none
    | false => buildK rw ρ b (j + 1) ((i, x) :: r) fun vs fzs => K (a.zero, vs) fzs
  | _, _, _, _ => none
def memD (l : List Nat) : Option Tmp → Bool
  | some d => l.any fun x => Nat.beq x d
  | none => false
/-- a cell of a nought that is the slice that is none -/
def nilAt : List Zc → Nat → Bool
  | .c v :: r, o => match o with
    | 0 => (match v with | .slice none 0 0 => true | _ => false)
    | o + 1 => nilAt r o
  | _, _ => false
def nil1 (zo : List Zc) (a : Ki) (o : Nat) : List Nat := match a with
  | .list _ => match nilAt zo o with
    | true => [o]
    | false => []
  | _ => []
/-- the slices among a struct's fields that aren't named -/
def nilOffs (zo : List Zc) : Ki → Nat → Nat → List (Nat × Operand) → List Nat
  | .pair a b, j, o, [] => nil1 zo a o ++ nilOffs zo b (j + 1) (o + a.sz) []
  | .pair a b, j, o, (i, x) :: r => match Nat.beq i j with
    | true => nilOffs zo b (j + 1) (o + a.sz) r
    | false => nil1 zo a o ++ nilOffs zo b (j + 1) (o + a.sz) ((i, x) :: r)
  | _, _, _, _ => []
def bldV (T : Tys) (dst : Option Tmp) (t : TypeId) (k : Ki) (x : k.den) (parts : List (Nat × Operand)) : SV := match memD T.bs dst, look T.zo t with
  | true, some zo => .bld k x (nilOffs zo k 0 0 parts)
  | _, _ => .val k x
def Ki.st : Ki → Bool
  | .unit => true
  | .pair _ _ => true
  | _ => false
/-- cells are read: what they hold, what is shared from now on, which rows they hold -/
def rdCK (rw : Nat → Option RowC) : (cs : List CK) → List SV → Option (CKs.den cs × List Nat × List (Option (Nat ⊕ Nat)))
  | [], [] => some ((), [], [])
  | .v k :: cs, s :: ss => match k.st with
    | true => none
    | false => rdK rw k s fun x fz => match rdCK rw cs ss with
      | some y => some ((x, y.1), fz ++ y.2.1, y.2.2)
      | none => none
  | .own e k :: cs, .nil :: ss => match rdCK rw cs ss with
    | some y => some ((([] : List k.den), y.1), y.2.1, none :: y.2.2)
    | none => none
  | .own e k :: cs, .row id :: ss => match rw id with
    | some r => match r.fz, Nat.beq r.e e with
      | false, true => if h : Ki.list r.k = .list k then (match rdCK rw cs ss with
        | some y => some ((Ki.cast h r.xs, y.1), y.2.1, some (.inl id) :: y.2.2)
        | none => none) else none
      | _, _ => none
    | none => none
  | _, _ => none
def rdBox (rw : Nat → Option RowC) (bx : Nat → Option BoxC) (t : TypeId) (cs : List CK) (b : Nat) : Option (CKs.den cs × List Nat × List (Option (Nat ⊕ Nat))) :=
  match bx b with
  | some B => match Nat.beq B.t t with
    | true => match rdCK rw cs B.cs with
      | some y => some (y.1, y.2.1, some (.inr b) :: y.2.2)
      | none => none
    | false => none
  | none => none
def idAt : List (Option (Nat ⊕ Nat)) → Nat → Option (Option (Nat ⊕ Nat))
  | [], _ => none
  | o :: r, i => match i with
    | 0 => some o
    | i + 1 => idAt r i
def isAt (ids : List (Option (Nat ⊕ Nat))) (j b : Nat) : Bool := match idAt ids j with
  | some (some (.inr b')) => Nat.beq b' b
  | _ => false
def isRa (ids : List (Option (Nat ⊕ Nat))) (j b : Nat) : Bool := match idAt ids j with
  | some (some (.inl b')) => Nat.beq b' b
  | _ => false
def isRn (ids : List (Option (Nat ⊕ Nat))) (j : Nat) : Bool := match idAt ids j with
  | some none => true
  | _ => false
def rdCp (rw : Nat → Option RowC) (bx : Nat → Option BoxC) : List (Option (Nat ⊕ Nat)) → (ps : List Cp) → List SV → Option (Cps.den ps × List Nat × List (Option (Nat ⊕ Nat)))
  | _, [], [] => some ((), [], [])
  | pre, .v k :: ps, .val k' x :: ss => if h : k' = k then (match rdCp rw bx pre ps ss with
    | some y => some ((Ki.cast h x, y.1), y.2.1, y.2.2)
    | none => none) else none
  | pre, .box t cs :: ps, .ptr b 0 :: ss => match rdBox rw bx t cs b with
    | some x => match rdCp rw bx (pre ++ x.2.2) ps ss with
      | some y => some ((x.1, y.1), x.2.1 ++ y.2.1, x.2.2 ++ y.2.2)
      | none => none
    | none => none
  | pre, .at j :: ps, .ptr b 0 :: ss => match isAt pre j b, rdCp rw bx pre ps ss with
    | true, some y => some (((), y.1), y.2.1, y.2.2)
    | _, _ => none
  | _, _, _ => none
def rdCS (rw : Nat → Option RowC) (bx : Nat → Option BoxC) (ne : Nat → Option NestC) (pre : List (Option (Nat ⊕ Nat))) : (c : CS) → SL → Option (c.den × List Nat × List (Option (Nat ⊕ Nat)))
  | .v k, .one s => rdK rw k s fun x fz => some (x, fz, [])
  | .own e k, .one .nil => some (([] : List k.den), [], [none])
  | .own e k, .one (.row id) => match rw id with
    | some r => match r.fz, Nat.beq r.e e with
      | false, true => if h : Ki.list r.k = .list k then some (Ki.cast h r.xs, [], [some (.inl id)]) else none
      | _, _ => none
    | none => none
  | .nil, .one .nil => some ((), [], [])
  | .box t cs, .one (.ptr b 0) => rdBox rw bx t cs b
  | .at j, .one (.ptr b 0) => match isAt pre j b with
    | true => some ((), [], [])
    | false => none
  | .ra j, .one (.row id) => match isRa pre j id with
    | true => some ((), [], [])
    | false => none
  | .ra j, .one .nil => match isRn pre j with
    | true => some ((), [], [])
    | false => none
  | .fn f ps, .fn f' ss => match Nat.beq f f' with
    | true => rdCp rw bx pre ps ss
    | false => none
  | .nest e t k, .one .nil => some (([] : List (List k.den)), [], [none])
  | .nest e t k, .one (.row id) => match ne id with
    | some n => match Nat.beq n.e e, Nat.beq n.t t, n.hole with
      | true, true, none => if h : Ki.list (Ki.list n.k) = .list (.list k) then some (Ki.cast h n.xs, [], [some (.inl id)]) else none
      | _, _, _ => none
    | none => none
  | _, _ => none
def rdL (rw : Nat → Option RowC) (bx : Nat → Option BoxC) (ne : Nat → Option NestC) (sl : Nat → SL) : List (Option (Nat ⊕ Nat)) → (L : List (Nat × CS)) → Option (CSs.den L × List Nat × List (Option (Nat ⊕ Nat)))
  | _, [] => some ((), [], [])
  | pre, c :: L => match rdCS rw bx ne pre c.2 (sl c.1) with
    | some x => match rdL rw bx ne sl (pre ++ x.2.2) L with
      | some y => some ((x.1, y.1), x.2.1 ++ y.2.1, x.2.2 ++ y.2.2)
      | none => none
    | none => none
def sameI : Nat ⊕ Nat → Nat ⊕ Nat → Bool
  | .inl a, .inl b => Nat.beq a b
  | .inr a, .inr b => Nat.beq a b
  | _, _ => false
def hasI (i : Nat ⊕ Nat) : List (Option (Nat ⊕ Nat)) → Bool
  | [] => false
  | none :: r => hasI i r
  | some y :: r => sameI y i || hasI i r
/-- each of them once, and none that is shared -/
def okIds (fz : List Nat) : List (Option (Nat ⊕ Nat)) → Bool
  | [] => true
  | none :: r => okIds fz r
  | some (.inl i) :: r => !fz.contains i && (!hasI (.inl i) r && okIds fz r)
  | some (.inr i) :: r => !hasI (.inr i) r && okIds fz r
def Ki.flat : Ki → Bool
  | .list _ => false
  | .nl _ => false
  | .ref _ => false
  | .arr _ k => k.flat
  | .pair a b => a.flat && b.flat
  | _ => true
def CK.flat : CK → Bool
  | .v a => a.flat
  | .own _ a => a.flat
def Cp.flat : Cp → Bool
  | .v a => a.flat
  | .box _ cs => cs.all CK.flat
  | .at _ => true
/-- nothing that leads elsewhere comes out -/
def CS.flat : CS → Bool
  | .v a => a.flat
  | .own _ a => a.flat
  | .nil => true
  | .box _ cs => cs.all CK.flat
  | .at _ => true
  | .ra _ => true
  | .fn _ ps => ps.all Cp.flat
  | .nest _ _ k => k.flat
/-- the boxes' numbers -/
def boxNos : List Ob → Nat → List Nat
  | [], _ => []
  | .row _ :: r, i => boxNos r (i + 1)
  | .nest _ :: r, i => boxNos r (i + 1)
  | .box _ :: r, i => i :: boxNos r (i + 1)
def rowsOf : List (Option (Nat ⊕ Nat)) → List Nat
  | [] => []
  | some (.inl i) :: r => i :: rowsOf r
  | _ :: r => rowsOf r
def boxesOf : List (Option (Nat ⊕ Nat)) → List Nat
  | [] => []
  | some (.inr i) :: r => i :: boxesOf r
  | _ :: r => boxesOf r
def SV.up (uR uB : Nat → Nat) : SV → SV
  | .row id => .row (uR id)
  | .ptr b o => .ptr (uB b) o
  | s => s
def SL.up (uR uB : Nat → Nat) : SL → SL
  | .one s => .one (s.up uR uB)
  | .tup ss => .tup ss
  | .fn f ss => .fn f (ss.map (SV.up uR uB))
/-- what came out: the rows, the boxes, by their new numbers -/
def obRows (uR : Nat → Nat) : List Ob → Nat → List (Nat × RowC)
  | [], _ => []
  | .row r :: l, i => (uR i, r) :: obRows uR l (i + 1)
  | .box _ :: l, i => obRows uR l (i + 1)
  | .nest _ :: l, i => obRows uR l (i + 1)
def obBoxes (uR uB : Nat → Nat) : List Ob → Nat → List (Nat × BoxC)
  | [], _ => []
  | .row _ :: l, i => obBoxes uR uB l (i + 1)
  | .nest _ :: l, i => obBoxes uR uB l (i + 1)
  | .box b :: l, i => (uB i, ⟨b.t, b.cs.map (SV.up uR uB)⟩) :: obBoxes uR uB l (i + 1)
def obNests (uR : Nat → Nat) : List Ob → Nat → List (Nat × NestC)
  | [], _ => []
  | .row _ :: l, i => obNests uR l (i + 1)
  | .box _ :: l, i => obNests uR l (i + 1)
  | .nest n :: l, i => (uR i, n) :: obNests uR l (i + 1)
def mtAt : List (Option (Nat ⊕ Nat)) → Nat → Option (Nat ⊕ Nat)
  | [], _ => none
  | o :: r, i => match i with
    | 0 => o
    | i + 1 => mtAt r i
/-- the number of a row, of a box, that came out -/
def outR (rw : Nat → Option RowC) (q : Nat) (ids mt : List (Option (Nat ⊕ Nat))) (j : Nat) : Nat :=
  match mtAt mt j with
  | some (.inl i) => match mtAt ids i with
    | some (.inl r) => match rw r with
      | some _ => r
      | none => q + j
    | _ => q + j
  | _ => q + j
def outB (bx : Nat → Option BoxC) (q : Nat) (ids mt : List (Option (Nat ⊕ Nat))) (j : Nat) : Nat :=
  match mtAt mt j with
  | some (.inr i) => match mtAt ids i with
    | some (.inr r) => match bx r with
      | some _ => r
      | none => q + j
    | _ => q + j
  | _ => q + j
def outSL : List SL → SL
  | [s] => s
  | l => .tup (l.map fun s => match s with
    | .one v => v
    | _ => .undef)
def argSl : List SL → Nat → SL
  | [], _ => .one .undef
  | s :: r, t => match t with
    | 0 => s
    | t + 1 => argSl r t
def slAt (l : List (Nat × SL)) (t : Nat) : SL := match look l t with
  | some s => s
  | none => .one .undef
def isOne : SL → Bool
  | .one _ => true
  | _ => false
def outOk : List SL → Bool
  | [.tup _] => false
  | [_] => true
  | l => l.all isOne
def callK {R : Type} (rw : Nat → Option RowC) (bx : Nat → Option BoxC) (d : Den) (args : List SL) (q : Nat) (K : Dl → Option R) : Option R :=
  match Nat.beq args.length d.lin.length, rdL rw bx (fun _ => none) (argSl args) [] d.lin with
  | true, some x => (d.f x.1).bind fun r =>
    match okIds x.2.1 x.2.2, Nat.ble (canL d.lout (d.out r) 0).2.length 8 && outOk (d.res.map (slAt (canL d.lout (d.out r) 0).1)) with
    | true, true => K { v := outSL ((d.res.map (slAt (canL d.lout (d.out r) 0).1)).map (SL.up (outR rw q x.2.2 d.mt) (outB bx q x.2.2 d.mt))), fz := if d.lout.all (fun c => c.2.flat) then [] else x.2.1, kl := rowsOf x.2.2, kb := boxesOf x.2.2, nw := obRows (outR rw q x.2.2 d.mt) (canL d.lout (d.out r) 0).2 0, ub := obBoxes (outR rw q x.2.2 d.mt) (outB bx q x.2.2 d.mt) (canL d.lout (d.out r) 0).2 0, nn := obNests (outR rw q x.2.2 d.mt) (canL d.lout (d.out r) 0).2 0 }
    | _, _ => none
  | _, _ => none
/-- which function value is handed -/
def keyOf : List SL → Nat
  | [] => 0
  | .fn f _ :: _ => f + 1
  | _ :: r => keyOf r
/-- a row of one's own is handed -/
def ownArg (rw : Nat → Option RowC) : List SL → Bool
  | [] => false
  | .one (.row id) :: r => match rw id with
    | some rr => match rr.fz with
      | false => true
      | true => ownArg rw r
    | none => ownArg rw r
  | _ :: r => ownArg rw r
def pickD (D : FuncId → Nat → Option Den) (rw : Nat → Option RowC) (f : FuncId) (args : List SL) : Option Den := match ownArg rw args with
  | true => match D f (keyOf args + 1000000) with
    | some d => some d
    | none => D f (keyOf args)
  | false => D f (keyOf args)
theorem pickD_ok {D : FuncId → Nat → Option Den} {rw : Nat → Option RowC} {f : FuncId} {args : List SL} {d : Den} (h : pickD D rw f args = some d) : ∃ key, D f key = some d := by
  unfold pickD at h
  split at h
  · split at h
    · rename_i hd; cases h; exact ⟨_, hd⟩
    · exact ⟨_, h⟩
  · exact ⟨_, h⟩
def ones : List SL → Option (List SV)
  | [] => some []
  | .one s :: r => match ones r with
    | some l => some (s :: l)
    | none => none
  | _ :: _ => none
def cellsSV : (k : Ki) → k.den → List SV
  | .unit, _ => []
  | .pair a b, x => cellsSV a x.1 ++ cellsSV b x.2
  | k, x => [.val k x]
def boxCells : SV → List SV
  | .val k x => cellsSV k x
  | .bld k x _ => cellsSV k x
  | s => [s]
/-- a value out of a box's cells -/
def packK {R : Type} (rw : Nat → Option RowC) : (k : Ki) → List SV → (k.den → List Nat → List SV → Option R) → Option R
  | .unit, cs, K => K () [] cs
  | .pair a b, cs, K => packK rw a cs fun x fz cs' => packK rw b cs' fun y fz' cs'' => K (x, y) (fz ++ fz') cs''
  | k, s :: cs, K => rdK rw k s fun x fz => K x fz cs
  | _, _, _ => none
/-- addresses, one behind the other -/
def ptrsK (ρ : Operand → SL) : List (Nat × Operand) → Nat → Option (List (Nat × Nat))
  | [], _ => some []
  | (i, x) :: r, j => match Nat.beq i j, ρ x with
    | true, .one (.ptr b o) => match ptrsK ρ r (j + 1) with
      | some l => some ((b, o) :: l)
      | none => none
    | _, _ => none
/-- a box's cells from a place on, or up to it -/
def dropC : List SV → Nat → Option (List SV)
  | [], o => match o with
    | 0 => some []
    | _ + 1 => none
  | s :: r, o => match o with
    | 0 => some (s :: r)
    | o + 1 => match Nat.ble s.w (o + 1) with
      | true => dropC r (o + 1 - s.w)
      | false => none
def takeC : List SV → Nat → Option (List SV)
  | [], o => match o with
    | 0 => some []
    | _ + 1 => none
  | s :: r, o => match o with
    | 0 => some []
    | o + 1 => match Nat.ble s.w (o + 1) with
      | true => match takeC r (o + 1 - s.w) with
        | some l => some (s :: l)
        | none => none
      | false => none
/-- one cell, no array -/
def SV.single : SV → Bool
  | .val k _ => !k.agg
  | _ => true
/-- a cell is told to be the slice that is none -/
def setNil (cs : List SV) (o : Nat) : Option (List SV) := match takeC cs o, dropC cs o with
  | some pre, some (s :: post) => match s.single with
    | true => some (pre ++ [.nil] ++ post)
    | false => none
  | _, _ => none
def setNils : List SV → List Nat → Option (List SV)
  | cs, [] => some cs
  | cs, o :: r => match setNil cs o with
    | some cs' => setNils cs' r
    | none => none
def lim : Int := 4294967296
/-- the bound, asked so that the kernel does not count down to it -/
def limB : Int → Bool
  | .ofNat n => Nat.ble n 4294967296
  | .negSucc _ => true
theorem limB_iff (x : Int) : limB x = true ↔ x ≤ lim := by
  cases x with
  | ofNat n => simp only [limB, Nat.ble_eq, lim, Int.ofNat_eq_natCast]; omega
  | negSucc n => exact ⟨fun _ => by simp only [lim]; omega, fun _ => rfl⟩
instance (priority := high) limDec (x : Int) : Decidable (x ≤ lim) := match h : limB x with
  | true => isTrue ((limB_iff x).1 h)
  | false => isFalse fun k => Bool.false_ne_true (h.symm.trans ((limB_iff x).2 k))
def loadK {R : Type} (T : Tys) (rw : Nat → Option RowC) (t : TypeId) (cs : List SV) (K : SV → List Nat → Option R) : Option R :=
  match T.kind t with
  | some k => match k.agg with
    | true => packK rw k cs fun x fz _ => K (.val k x) fz
    | false => match cs with
      | s :: _ => match s.single with
        | true => K s []
        | false => none
      | [] => none
  | none => match look T.pt t, cs with
    | some _, s :: _ => match s.single with
      | true => K s []
      | false => none
    | _, _ => none
/-- a type of one cell, no struct -/
def Tys.one (T : Tys) (t : TypeId) : Bool := match T.kind t with
  | some k => !k.agg
  | none => match look T.pt t with
    | some _ => true
    | none => false
def sameOp : Operand → Operand → Bool
  | .tmp a, .tmp b => Nat.beq a b
  | .const (.int k a), .const (.int k' b) => decide (k = k') && decide (a = b)
  | _, _ => false
def keepD (kp : List Nat) (dst : Option Tmp) : Bool := match dst with
  | some d => memN d kp
  | none => false
def nlsD (T : Tys) : Option Tmp → Option Ki
  | some d => look T.nls d
  | none => none
def evalQ {R : Type} (T : Tys) (D : FuncId → Nat → Option Den) (o : Oper) (ρ : Operand → SL) (rw : Nat → Option RowC) (bx : Nat → Option BoxC) (q : Nat) (K : Dl → Option R) : Option R :=
  match o.op with
  | .move x => K { v := ρ x, rd := .pure }
  | .assign x => match nlsD T o.dst with
    | none => K { v := ρ x, rd := .pure }
    | some k => match ρ x with
      | .one s => rdK rw (.nl k) s fun y fz => K { v := .one (.val (.nl k) y), fz := fz, rd := .pure }
      | _ => none
  | .pick c a b => match ρ c with
    | .one (.val .bool t) => if (t : Bool) = true then K { v := ρ a, rd := .pure } else K { v := ρ b, rd := .pure }
    | _ => none
  | .binOp op t x y _ => match ρ x, ρ y with
    | .one a, .one b => binK T t op a b fun s => K { v := .one s, rd := .pure }
    | _, _ => none
  | .unOp op _ x => match ρ x with
    | .one a => unK op a fun s => K { v := .one s, rd := .pure }
    | _ => none
  | .extract x i => match ρ x with
    | .tup vs => match vs[i]? with
      | some s => K { v := .one s, rd := .pure }
      | none => none
    | _ => none
  | .load t a => refK (ρ a) fun s => match s with
    | .one (.ref k x) => if T.kind t = some k then K { v := .one (.val k x), rd := .sh } else none
    | .one (.pref b o) => match T.kind t, look T.pt t with
      | none, some _ => K { v := .one (.ptr b o), rd := .sh }
      | _, _ => none
    | .one (.ptr b o) => match bx b with
      | some B => match dropC B.cs o with
        | some cs => loadK T rw t cs fun s fz => K { v := .one s, fz := fz, rd := .ob (.inr b) }
        | none => none
      | none => none
    | .one (.ael b o n sz i) => match bx b with
      | some B => match dropC B.cs o with
        | some (.val (.arr n' k) xs :: _) => match Nat.beq n n', Nat.beq sz k.sz with
          | true, true => if T.kind t = some k then K { v := .one (.val k (List.getD xs i k.zero)), rd := .ob (.inr b) } else none
          | _, _ => none
        | _ => none
      | none => none
    | .one (.elem id sz i o) => match rw id with
      | some r => match Nat.beq sz r.k.sz, T.kind t with
        | true, some kt => match Ki.getO kt r.k o (r.xs.getD i r.k.zero) with
          | some y => K { v := .one (.val kt y), rd := match r.fz with | true => .sh | false => .ob (.inl id) }
          | none => none
        | _, _ => none
      | none => none
    | _ => none
  | .fieldAddr s x f => refK (ρ x) fun y => match y with
    | .one (.ref k v) => if T.kind s = some k then k.fieldK f v fun k' v' => K { v := .one (.ref k' v'), rd := .pure } else none
    | .one (.ptr b o) => match look T.fo s with
      | some l => match l[f]? with
        | some d => K { v := .one (.ptr b (o + d)), rd := .pure }
        | none => none
      | none => none
    | .one (.elem id sz i o) => match look T.fo s with
      | some l => match l[f]? with
        | some d => K { v := .one (.elem id sz i (o + d)), rd := .pure }
        | none => none
      | none => none
    | _ => none
  | .field s x f => match ρ x with
    | .one (.val k v) => if T.kind s = some k then k.fieldK f v fun k' v' => K { v := .one (.val k' v'), rd := .pure } else none
    | _ => none
  | .indexAddr t x i => match unnlS (ρ x), ρ i with
    | .one (.ptr b o), .one (.val (.int _) j) => match T.kind t with
      | some (.arr n k) => if 0 ≤ (j : Int) then (if (j : Int) < ((n : Nat) : Int) then K { v := .one (.ael b o n k.sz (Int.toNat j)), rd := .pure } else none) else none
      | _ => none
    | .one (.ref (.arr n k) xs), .one (.val (.int _) j) => if T.kind t = some (.arr n k) then (if 0 ≤ (j : Int) then (if (j : Int) < ((n : Nat) : Int) then K { v := .one (.ref k (List.getD xs (Int.toNat j) k.zero)), rd := .pure } else none) else none) else none
    | .one (.val (.list k) xs), .one (.val (.int _) n) =>
      if T.kind t = some (.list k) then (if 0 ≤ (n : Int) then (if (n : Int) < (List.length xs : Int) then K { v := .one (.ref k (List.getD xs (Int.toNat n) k.zero)), rd := .pure } else none) else none) else none
    | .one (.row id), .one (.val (.int _) n) => match rw id with
      | some r => if T.kind t = some (.list r.k) then (if 0 ≤ (n : Int) then (if (n : Int) < (r.xs.length : Int) then K { v := .one (.elem id r.k.sz (Int.toNat n) 0), rd := .pure } else none) else none) else none
      | none => none
    | .one (.ptrs l), .one (.val (.int _) n) => match look T.ps t with
      | some _ => if 0 ≤ (n : Int) then (if (n : Int) < ((List.length l : Nat) : Int) then (match l[Int.toNat n]? with
        | some e => K { v := .one (.pref e.1 e.2), rd := .pure }
        | none => none) else none) else none
      | none => none
    | .one (.glob g), .one (.val (.int _) n) => match look T.gl g with
      | some v => match look T.ar t with
        | some m => match Nat.beq m.1 v.xs.length with
          | true => if T.kind m.2 = some v.k then (if 0 ≤ (n : Int) then (if (n : Int) < ((m.1 : Nat) : Int) then K { v := .one (.ref v.k (v.xs.getD (Int.toNat n) v.k.zero)), rd := .pure } else none) else none) else none
          | false => none
        | none => none
      | none => none
    | _, _ => none
  | .index t x i => match ρ x, ρ i with
    | .one (.val .str s), .one (.val (.int _) n) => if T.kind t = some .str then (if 0 ≤ (n : Int) then (if (n : Int) < ((ByteArray.size s : Nat) : Int) then K { v := .one (.val (.int .u8) (List.getD (sbytes s) (Int.toNat n) 0)), rd := .pure } else none) else none) else none
    | .one (.val (.arr m k) xs), .one (.val (.int _) n) => if T.kind t = some (.arr m k) then (if 0 ≤ (n : Int) then (if (n : Int) < ((m : Nat) : Int) then K { v := .one (.val k (List.getD xs (Int.toNat n) k.zero)), rd := .pure } else none) else none) else none
    | _, _ => none
  | .nilCheck x => refK (ρ x) fun y => match y with
    | .one (.ael b o n sz i) => K { v := .one (.ael b o n sz i), rd := .pure }
    | .one (.ptr b o) => K { v := .one (.ptr b o), rd := .pure }
    | .one (.ref k v) => K { v := .one (.ref k v), rd := .pure }
    | .one (.elem id sz i o) => K { v := .one (.elem id sz i o), rd := .pure }
    | _ => none
  | .slice t x lo hi none => match unnlS (ρ x) with
    | .one (.val (.list k) xs) => if T.kind t = some (.list k) then cutK (List.length xs) (lo.map ρ) (hi.map ρ) fun l h => K { v := .one (.val (.list k) (List.drop l (List.take h xs))), rd := .pure } else none
    | .one (.val .str s) => if T.kind t = some .str then cutK (ByteArray.size s) (lo.map ρ) (hi.map ρ) fun l h => K { v := .one (.val .str (ByteArray.extract s l h)), rd := .pure } else none
    | .one (.row id) => match rw id with
      | some r => if T.kind t = some (.list r.k) then (match keepD T.kp o.dst with
        | false => cutK r.xs.length (lo.map ρ) (hi.map ρ) fun l h => K { v := .one (.val (.list r.k) (List.drop l (List.take h r.xs))), fz := [id], rd := .pure }
        | true => match lo, r.fz with
          | none, false => cutK r.xs.length none (hi.map ρ) fun _ h => K { v := .one (.row q), kl := [id], nw := [(q, ⟨r.e, r.k, List.take h r.xs, false⟩)] }
          | _, _ => none) else none
      | none => none
    | .one .nil => match T.kind t with
      | some (.list _) => cutK 0 (lo.map ρ) (hi.map ρ) fun _ _ => K { v := .one .nil, rd := .pure }
      | _ => none
    | .one (.glob g) => match look T.gl g, look T.ar t with
      | some v, some m => match Nat.beq m.1 v.xs.length, Nat.ble m.1 1000000 with
        | true, true => if T.kind m.2 = some v.k then cutK v.xs.length (lo.map ρ) (hi.map ρ) fun l h => K { v := .one (.val (.list v.k) (List.drop l (List.take h v.xs))), rd := .pure } else none
        | _, _ => none
      | _, _ => none
    | .one (.ref (.arr n k) xs) => match Nat.ble n 1000000 with
      | true => if T.kind t = some (.arr n k) then cutK n (lo.map ρ) (hi.map ρ) fun l h => K { v := .one (.val (.list k) (List.drop l (List.take h xs))), rd := .pure } else none
      | false => none
    | .one (.nn k xs) => if T.kind t = some (.list k) then cutK (List.length xs) (lo.map ρ) (hi.map ρ) fun l h => K { v := .one (.val (.list k) (List.drop l (List.take h xs))), rd := .pure } else none
    | _ => none
  | .convert s d x => match ρ x, T.kind s, T.kind d with
    | .one (.val (.int _) n), some (.int _), some (.int k) => K { v := .one (.val (.int k) (wr k n)), rd := .pure }
    | .one (.val .str s), some .str, some (.list (.int .u8)) => if ((ByteArray.size s : Nat) : Int) ≤ lim then K { v := .one (.val (.list (.int .u8)) (sbytes s)) } else none
    | .one (.row id), some (.list (.int .u8)), some (.list (.int .u8)) => match Nat.beq s d, rw id with
      | true, some r => match r.fz, decide (r.k = .int .u8), r.xs with
        | false, true, _ :: _ => K { v := .one (.val (.list r.k) r.xs), kl := [id] }
        | _, _, _ => none
      | _, _ => none
    | .one (.val (.list (.int .u8)) xs), some (.list (.int .u8)), some .str => K { v := .one (.val .str (strOf xs)), rd := .sh }
    | .one a, some (.list (.int .u8)), some .str => rdK rw (.list (.int .u8)) a fun xs _ => K { v := .one (.val .str (strOf xs)) }
    | _, _, _ => none
  | .build t parts => match T.kind t with
    | some (.pair a b) => buildK rw ρ (.pair a b) 0 parts.toList fun x fz => K { v := .one (bldV T o.dst t (.pair a b) x parts.toList), fz := fz, rd := .pure }
    | some (.arr n k) => partsK rw ρ k parts.toList 0 fun xs fz => match Nat.beq xs.length n with
      | true => K { v := .one (.val (.arr n k) xs), fz := fz, rd := .pure }
      | false => none
    | _ => none
  | .buildSlice t n parts => match T.kind t, look T.sl t with
    | some (.list k), some e => partsK rw ρ k parts.toList 0 fun xs fz => match Nat.beq xs.length n && Nat.ble (n * k.sz) 16777216 with
      | true => K { v := .one (.row q), fz := fz, nr := [⟨e, k, xs, false⟩] }
      | false => none
    | none, _ => match look T.ps t, ptrsK ρ parts.toList 0 with
      | some e, some l => match Nat.beq l.length n, Nat.blt 0 n, Nat.ble n 1000 with
        | true, true, true => K { v := .one (.ptrs l) }
        | _, _, _ => none
      | _, _ => none
    | _, _ => none
  | .makeSlice t l c => match sameOp l c, ρ l, T.kind t, look T.sl t with
    | true, .one (.val (.int .i64) n), some (.list k), some e => if 0 ≤ (n : Int) then (if (n : Int) ≤ lim then K { v := .one (.row q), nr := [⟨e, k, List.replicate (Int.toNat n) k.zero, false⟩] } else none) else none
    | _, _, _, _ => none
  | .alloc e => match look T.zo e with
    | some cs => K { v := .one (.ptr q 0), nb := [⟨e, cs.map zcV⟩] }
    | none => none
  | .box e x => match ρ x with
    | .one (.val k y) => K { v := .one (.ptr q 0), nb := [⟨e, cellsSV k y⟩] }
    | .one .nil => K { v := .one (.ptr q 0), nb := [⟨e, [.nil]⟩] }
    | .one (.ptr b o) => K { v := .one (.ptr q 0), nb := [⟨e, [.ptr b o]⟩] }
    | .one (.row id) => match rw id with
      | some _ => K { v := .one (.ptr q 0), nb := [⟨e, [.row id]⟩] }
      | none => none
    | _ => none
  | .makeFunc fn first caps => match fn with
    | .func f => match first.toList, ones (caps.toList.map ρ) with
      | [], some cs => K { v := .fn f cs, rd := .pure }
      | _, _ => none
    | _ => none
  | .call c => match c.callee with
    | .builtin .len => match c.args.toList, c.argTypes.toList with
      | [x], [t] => match ρ x, T.kind t with
        | .one (.val .str s), some .str => K { v := .one (.val (.int .i64) ((ByteArray.size s : Nat) : Int)), rd := .pure }
        | .one (.ptrs l), none => match look T.ps t with
          | some _ => K { v := .one (.val (.int .i64) ((List.length l : Nat) : Int)), rd := .pure }
          | none => none
        | .one s, some (.list _) => lenK rw s fun r => K { v := .one r, rd := .pure }
        | _, _ => none
      | _, _ => none
    | .builtin .copy => match c.args.toList, c.argTypes.toList with
      | [x, y], [t, u] => match ρ x, ρ y with
        | .one (.row id), .one s => match rw id with
          | some r => match r.fz, Nat.beq r.k.sz 1 with
            | false, true => if T.kind t = some (.list r.k) then rdK rw (.list r.k) s fun ys fz => (match fz.contains id with
              | true => none
              | false => K { v := .one (.val (.int .i64) (((if List.length ys < List.length r.xs then List.length ys else List.length r.xs) : Nat) : Int)), fz := fz, kl := [id], nw := [(id, ⟨r.e, r.k, List.take (List.length r.xs) ys ++ List.drop (List.length ys) r.xs, false⟩)] }) else none
            | _, _ => none
          | none => none
        | _, _ => none
      | _, _ => none
    | .builtin .cap => match c.args.toList, c.argTypes.toList with
      | [x], [t] => match ρ x, T.kind t with
        | .one .nil, some (.list _) => K { v := .one (.val (.int .i64) (0 : Int)), rd := .pure }
        | _, _ => none
      | _, _ => none
    | .builtin .min => match c.args.toList.map ρ with
      | [.one (.val (.int k) x), .one (.val (.int k') y)] => if k = k' then K { v := .one (.val (.int k) (if (y : Int) < x then y else x)), rd := .pure } else none
      | _ => none
    | .builtin .max => match c.args.toList.map ρ with
      | [.one (.val (.int k) x), .one (.val (.int k') y)] => if k = k' then K { v := .one (.val (.int k) (if (x : Int) < y then y else x)), rd := .pure } else none
      | _ => none
    | .value f => match ρ f with
      | .fn f caps => match pickD D rw f (c.args.toList.map ρ) with
        | some d => callK rw bx d (c.args.toList.map ρ ++ caps.map SL.one) q K
        | none => none
      | _ => none
    | _ => none
  | _ => none
end Go.Proofs.YtlioalaehkohlaaDoor.Vm
