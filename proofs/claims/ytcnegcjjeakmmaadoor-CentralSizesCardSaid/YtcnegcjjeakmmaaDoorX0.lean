/- Functions of the Go program as Lean functions, by the machine. Written by a program. -/
import Derived.Test.YtcnegcjjeakmmaaDoorXt
import Derived.Lib.SliceRun
import Derived.Test.YtcnegcjjeakmmaaDoorN3
import Derived.Test.YtcnegcjjeakmmaaDoorVH
import Derived.WalkKit
namespace Go.Proofs.YtcnegcjjeakmmaaDoor.Vm
open Go Go.RowKit
set_option linter.unusedVariables false
set_option linter.unusedSimpArgs false
set_option maxRecDepth 100000
namespace name_may
@[reducible] def lin : List (Nat × CS) := [(0, .v (.int .i32))]
@[reducible] def lout : List (Nat × CS) := [(2, .v .bool)]
noncomputable def ns : NS := nsOf Go.Proofs.Tryd.f62 lin lout
noncomputable def D (n : Nat) : FuncId → Nat → Option Den := lookD []
theorem hD (n : Nat) : DenOk Go.Proofs.Tryd.prog Ty.gl (D n) := lookD_ok trivial
def rs : List ResultVar := [.tmp 2]
noncomputable def f (n : Nat) (x : CSs.den lin) : Option (CSs.den lout) := run Ty (D n) (mkH [] [] [] [] []) ns (cd Go.Proofs.Tryd.f62) (canon lin x) (retK Ty rs (Go.Func.ntmps Go.Proofs.Tryd.f62) lout id)
@[reducible] noncomputable def den (n : Nat) : Den := ⟨lin, lout, [2], [], CSs.den lout, f n, id⟩
theorem sat (n : Nat) : Sat Go.Proofs.Tryd.prog Ty.gl 62 (den n) := sat_is hTy (hD n) Go.Proofs.Tryd.func62 rfl rfl (den n) [] [] [] [] [] (by kernel_rfl) trivial trivial (rs := rs) (by kernel_rfl) (by kernel_rfl) (by kernel_rfl) (by kernel_rfl) (by kernel_rfl) (fun _ => rfl) (fun _ _ => rfl) id (fun _ => rfl) (by intro x; kernel_rfl)
end name_may
namespace name_part
@[reducible] def lin : List (Nat × CS) := [(0, .v .str)]
@[reducible] def lout : List (Nat × CS) := [(2, .v .bool)]
noncomputable def ns : NS := nsOf Go.Proofs.Tryd.f64 lin lout
noncomputable def D (n : Nat) : FuncId → Nat → Option Den := lookD []
theorem hD (n : Nat) : DenOk Go.Proofs.Tryd.prog Ty.gl (D n) := lookD_ok trivial
def rs : List ResultVar := [.tmp 2]
noncomputable def f (n : Nat) (x : CSs.den lin) : Option (CSs.den lout) := run Ty (D n) (mkH [] [] [] [] []) ns (cd Go.Proofs.Tryd.f64) (canon lin x) (retK Ty rs (Go.Func.ntmps Go.Proofs.Tryd.f64) lout id)
@[reducible] noncomputable def den (n : Nat) : Den := ⟨lin, lout, [2], [], CSs.den lout, f n, id⟩
theorem sat (n : Nat) : Sat Go.Proofs.Tryd.prog Ty.gl 64 (den n) := sat_is hTy (hD n) Go.Proofs.Tryd.func64 rfl rfl (den n) [] [] [] [] [] (by kernel_rfl) trivial trivial (rs := rs) (by kernel_rfl) (by kernel_rfl) (by kernel_rfl) (by kernel_rfl) (by kernel_rfl) (fun _ => rfl) (fun _ _ => rfl) id (fun _ => rfl) (by intro x; kernel_rfl)
end name_part
namespace name_Check
@[reducible] def lin : List (Nat × CS) := [(0, .v .str)]
@[reducible] def lout : List (Nat × CS) := [(27, .v (.int .i64))]
noncomputable def may (n : Nat) (r : Int) : Option Bool := (name_may.f n (r, ())).bind fun y => some y.1
noncomputable def part (n : Nat) (t : ByteArray) : Option Bool := (name_part.f n (t, ())).bind fun y => some y.1
noncomputable def f (n : Nat) (x : CSs.den lin) : Option (CSs.den lout) := (Nm.checkN (may n) (part n) n x.1).bind fun r => some (r, ())
@[reducible] noncomputable def den (n : Nat) : Den := ⟨lin, lout, [27], [], CSs.den lout, f n, id⟩
theorem sat (n : Nat) : Sat Go.Proofs.Tryd.prog Ty.gl 46 (den n) := by
  refine sat_str_int (F0 := fun s => Nm.checkN (may n) (part n) n s) Go.Proofs.Tryd.func46 rfl rfl (fun W s r hW hr => ?_)
  refine Nm.check_ok (fun r b W' hb hB => ?_) (fun t b W' hb hB => ?_) hr
  · obtain ⟨y, h1, h2⟩ := Nm.bind_some' hb
    cases h2
    exact val_calls (name_may.sat n) (ks := [.int .i32]) rfl (hW.below hB) (vs := [.int .i32 r]) (x := (r, ())) ⟨_, _, rfl, VRv.of_int W' _ .i32 r, rfl⟩ rfl rfl h1
  · obtain ⟨y, h1, h2⟩ := Nm.bind_some' hb
    cases h2
    exact val_calls (name_part.sat n) (ks := [.str]) rfl (hW.below hB) (vs := [.string t]) (x := (t, ())) ⟨_, _, rfl, VRv.of_str W' _ t, rfl⟩ rfl rfl h1
end name_Check
namespace law19_sample
@[reducible] def lin : List (Nat × CS) := []
@[reducible] def lout : List (Nat × CS) := [(4, .v (.pair (.pair (.int .i64) (.pair (.pair (.int .i64) (.pair (.int .i64) (.pair (.int .i64) (.pair (.int .i64) (.pair (.int .i64) (.pair (.int .i64) .unit)))))) (.pair (.int .u32) (.pair (.int .u64) (.pair (.int .u64) (.pair .str .unit)))))) (.pair (.int .u32) (.pair (.int .u64) .unit))))]
noncomputable def ns : NS := nsOf Go.Proofs.Tryd.f19 lin lout
noncomputable def D (n : Nat) : FuncId → Nat → Option Den := lookD []
theorem hD (n : Nat) : DenOk Go.Proofs.Tryd.prog Ty.gl (D n) := lookD_ok trivial
def rs : List ResultVar := [.cell 0 29]
noncomputable def f (n : Nat) (x : CSs.den lin) : Option (CSs.den lout) := run Ty (D n) (mkH [] [] [] [] []) ns (cd Go.Proofs.Tryd.f19) (canon lin x) (retK Ty rs (Go.Func.ntmps Go.Proofs.Tryd.f19) lout id)
@[reducible] noncomputable def den (n : Nat) : Den := ⟨lin, lout, [4], [], CSs.den lout, f n, id⟩
theorem sat (n : Nat) : Sat Go.Proofs.Tryd.prog Ty.gl 19 (den n) := sat_is hTy (hD n) Go.Proofs.Tryd.func19 rfl rfl (den n) [] [] [] [] [] (by kernel_rfl) trivial trivial (rs := rs) (by kernel_rfl) (by kernel_rfl) (by kernel_rfl) (by kernel_rfl) (by kernel_rfl) (fun _ => rfl) (fun _ _ => rfl) id (fun _ => rfl) (by intro x; kernel_rfl)
end law19_sample
namespace stamp_within
@[reducible] def lin : List (Nat × CS) := [(0, .v (.int .i64)), (1, .v (.int .i64)), (2, .v (.int .i64))]
@[reducible] def lout : List (Nat × CS) := [(6, .v .bool)]
noncomputable def ns : NS := nsOf Go.Proofs.Tryd.f60 lin lout
noncomputable def D (n : Nat) : FuncId → Nat → Option Den := lookD []
theorem hD (n : Nat) : DenOk Go.Proofs.Tryd.prog Ty.gl (D n) := lookD_ok trivial
def rs : List ResultVar := [.tmp 6]
noncomputable def f (n : Nat) (x : CSs.den lin) : Option (CSs.den lout) := run Ty (D n) (mkH [] [] [] [] []) ns (cd Go.Proofs.Tryd.f60) (canon lin x) (retK Ty rs (Go.Func.ntmps Go.Proofs.Tryd.f60) lout id)
@[reducible] noncomputable def den (n : Nat) : Den := ⟨lin, lout, [6], [], CSs.den lout, f n, id⟩
theorem sat (n : Nat) : Sat Go.Proofs.Tryd.prog Ty.gl 60 (den n) := sat_is hTy (hD n) Go.Proofs.Tryd.func60 rfl rfl (den n) [] [] [] [] [] (by kernel_rfl) trivial trivial (rs := rs) (by kernel_rfl) (by kernel_rfl) (by kernel_rfl) (by kernel_rfl) (by kernel_rfl) (fun _ => rfl) (fun _ _ => rfl) id (fun _ => rfl) (by intro x; kernel_rfl)
end stamp_within
namespace stamp_Days
@[reducible] def lin : List (Nat × CS) := [(0, .v (.int .i64)), (1, .v (.int .i64))]
@[reducible] def lout : List (Nat × CS) := [(4, .v (.int .i64))]
noncomputable def ns : NS := nsOf Go.Proofs.Tryd.f61 lin lout
noncomputable def D (n : Nat) : FuncId → Nat → Option Den := lookD []
theorem hD (n : Nat) : DenOk Go.Proofs.Tryd.prog Ty.gl (D n) := lookD_ok trivial
def rs : List ResultVar := [.tmp 4]
noncomputable def f (n : Nat) (x : CSs.den lin) : Option (CSs.den lout) := run Ty (D n) (mkH [] [] [] [] []) ns (cd Go.Proofs.Tryd.f61) (canon lin x) (retK Ty rs (Go.Func.ntmps Go.Proofs.Tryd.f61) lout id)
@[reducible] noncomputable def den (n : Nat) : Den := ⟨lin, lout, [4], [], CSs.den lout, f n, id⟩
theorem sat (n : Nat) : Sat Go.Proofs.Tryd.prog Ty.gl 61 (den n) := sat_is hTy (hD n) Go.Proofs.Tryd.func61 rfl rfl (den n) [] [] [] [] [] (by kernel_rfl) trivial trivial (rs := rs) (by kernel_rfl) (by kernel_rfl) (by kernel_rfl) (by kernel_rfl) (by kernel_rfl) (fun _ => rfl) (fun _ _ => rfl) id (fun _ => rfl) (by intro x; kernel_rfl)
end stamp_Days
namespace stamp_Check
@[reducible] def lin : List (Nat × CS) := [(0, .v (.pair (.int .i64) (.pair (.int .i64) (.pair (.int .i64) (.pair (.int .i64) (.pair (.int .i64) (.pair (.int .i64) .unit)))))))]
@[reducible] def lout : List (Nat × CS) := [(2, .v (.int .i64))]
noncomputable def ns : NS := nsOf Go.Proofs.Tryd.f45 lin lout
noncomputable def D (n : Nat) : FuncId → Nat → Option Den := lookD [((60, 0), stamp_within.den n), ((61, 0), stamp_Days.den n)]
theorem hD (n : Nat) : DenOk Go.Proofs.Tryd.prog Ty.gl (D n) := lookD_ok ⟨stamp_within.sat n, stamp_Days.sat n, trivial⟩
def rs : List ResultVar := [.tmp 2]
noncomputable def f (n : Nat) (x : CSs.den lin) : Option (CSs.den lout) := run Ty (D n) (mkH [] [(1, ⟨[1], [(.mem, 0), (.mem, 1), (.step, 2), (.cur, 3), (.mem, 4), (.mem, 5), (.step, 6), (.cur, 7), (.cur, 8), (.mem, 9), (.mem, 10), (.mem, 11), (.mem, 12), (.mem, 13), (.mem, 14), (.step, 15), (.step, 16), (.cur, 17), (.cur, 18)]⟩)] [] [] []) ns (cd Go.Proofs.Tryd.f45) (canon lin x) (retK Ty rs (Go.Func.ntmps Go.Proofs.Tryd.f45) lout id)
@[reducible] noncomputable def den (n : Nat) : Den := ⟨lin, lout, [2], [], CSs.den lout, f n, id⟩
theorem sat (n : Nat) : Sat Go.Proofs.Tryd.prog Ty.gl 45 (den n) := sat_is hTy (hD n) Go.Proofs.Tryd.func45 rfl rfl (den n) [] [(1, ⟨[1], [(.mem, 0), (.mem, 1), (.step, 2), (.cur, 3), (.mem, 4), (.mem, 5), (.step, 6), (.cur, 7), (.cur, 8), (.mem, 9), (.mem, 10), (.mem, 11), (.mem, 12), (.mem, 13), (.mem, 14), (.step, 15), (.step, 16), (.cur, 17), (.cur, 18)]⟩)] [] [] [] (by kernel_rfl) trivial trivial (rs := rs) (by kernel_rfl) (by kernel_rfl) (by kernel_rfl) (by kernel_rfl) (by kernel_rfl) (fun _ => rfl) (fun _ _ => rfl) id (fun _ => rfl) (by intro x; kernel_rfl)
end stamp_Check
namespace central_check
@[reducible] def lin : List (Nat × CS) := [(0, .v (.pair (.pair (.int .i64) (.pair (.pair (.int .i64) (.pair (.int .i64) (.pair (.int .i64) (.pair (.int .i64) (.pair (.int .i64) (.pair (.int .i64) .unit)))))) (.pair (.int .u32) (.pair (.int .u64) (.pair (.int .u64) (.pair .str .unit)))))) (.pair (.int .u32) (.pair (.int .u64) .unit))))]
@[reducible] def lout : List (Nat × CS) := [(2, .v (.int .i64))]
noncomputable def ns : NS := nsOf Go.Proofs.Tryd.f20 lin lout
noncomputable def D (n : Nat) : FuncId → Nat → Option Den := lookD [((45, 0), stamp_Check.den n), ((46, 0), name_Check.den n)]
theorem hD (n : Nat) : DenOk Go.Proofs.Tryd.prog Ty.gl (D n) := lookD_ok ⟨stamp_Check.sat n, name_Check.sat n, trivial⟩
def rs : List ResultVar := [.tmp 2]
noncomputable def f (n : Nat) (x : CSs.den lin) : Option (CSs.den lout) := run Ty (D n) (mkH [] [] [] [] [(1000001, [(.normal, [(1, .box 29 [.v (.int .i64), .v (.int .i64), .v (.int .i64), .v (.int .i64), .v (.int .i64), .v (.int .i64), .v (.int .i64), .v (.int .u32), .v (.int .u64), .v (.int .u64), .v .str, .v (.int .u32), .v (.int .u64)]), (13, .v .bool)])])]) ns (cd Go.Proofs.Tryd.f20) (canon lin x) (retK Ty rs (Go.Func.ntmps Go.Proofs.Tryd.f20) lout id)
@[reducible] noncomputable def den (n : Nat) : Den := ⟨lin, lout, [2], [], CSs.den lout, f n, id⟩
theorem sat (n : Nat) : Sat Go.Proofs.Tryd.prog Ty.gl 20 (den n) := sat_is hTy (hD n) Go.Proofs.Tryd.func20 rfl rfl (den n) [] [] [] [] [(1000001, [(.normal, [(1, .box 29 [.v (.int .i64), .v (.int .i64), .v (.int .i64), .v (.int .i64), .v (.int .i64), .v (.int .i64), .v (.int .i64), .v (.int .u32), .v (.int .u64), .v (.int .u64), .v .str, .v (.int .u32), .v (.int .u64)]), (13, .v .bool)])])] (by kernel_rfl) trivial trivial (rs := rs) (by kernel_rfl) (by kernel_rfl) (by kernel_rfl) (by kernel_rfl) (by kernel_rfl) (fun _ => rfl) (fun _ _ => rfl) id (fun _ => rfl) (by intro x; kernel_rfl)
end central_check
namespace stamp_Pack
@[reducible] def lin : List (Nat × CS) := [(0, .v (.pair (.int .i64) (.pair (.int .i64) (.pair (.int .i64) (.pair (.int .i64) (.pair (.int .i64) (.pair (.int .i64) .unit)))))))]
@[reducible] def lout : List (Nat × CS) := [(2, .v (.int .u16)), (3, .v (.int .u16)), (4, .v (.int .i64))]
noncomputable def ns : NS := nsOf Go.Proofs.Tryd.f21 lin lout
noncomputable def D (n : Nat) : FuncId → Nat → Option Den := lookD [((45, 0), stamp_Check.den n)]
theorem hD (n : Nat) : DenOk Go.Proofs.Tryd.prog Ty.gl (D n) := lookD_ok ⟨stamp_Check.sat n, trivial⟩
def rs : List ResultVar := [.tmp 2, .tmp 3, .tmp 4]
noncomputable def f (n : Nat) (x : CSs.den lin) : Option (CSs.den lout) := run Ty (D n) (mkH [] [(4, ⟨[1], [(.mem, 0), (.mem, 1), (.mem, 2), (.mem, 3), (.mem, 4), (.mem, 5), (.mem, 6), (.mem, 7), (.mem, 8), (.mem, 9), (.mem, 10), (.mem, 11), (.mem, 12), (.mem, 13), (.mem, 14), (.mem, 15), (.mem, 16), (.mem, 17), (.mem, 18), (.mem, 19), (.mem, 20), (.mem, 21), (.mem, 22), (.mem, 23), (.mem, 24), (.mem, 25), (.mem, 26)]⟩)] [] [] []) ns (cd Go.Proofs.Tryd.f21) (canon lin x) (retK Ty rs (Go.Func.ntmps Go.Proofs.Tryd.f21) lout id)
@[reducible] noncomputable def den (n : Nat) : Den := ⟨lin, lout, [2, 3, 4], [], CSs.den lout, f n, id⟩
theorem sat (n : Nat) : Sat Go.Proofs.Tryd.prog Ty.gl 21 (den n) := sat_is hTy (hD n) Go.Proofs.Tryd.func21 rfl rfl (den n) [] [(4, ⟨[1], [(.mem, 0), (.mem, 1), (.mem, 2), (.mem, 3), (.mem, 4), (.mem, 5), (.mem, 6), (.mem, 7), (.mem, 8), (.mem, 9), (.mem, 10), (.mem, 11), (.mem, 12), (.mem, 13), (.mem, 14), (.mem, 15), (.mem, 16), (.mem, 17), (.mem, 18), (.mem, 19), (.mem, 20), (.mem, 21), (.mem, 22), (.mem, 23), (.mem, 24), (.mem, 25), (.mem, 26)]⟩)] [] [] [] (by kernel_rfl) trivial trivial (rs := rs) (by kernel_rfl) (by kernel_rfl) (by kernel_rfl) (by kernel_rfl) (by kernel_rfl) (fun _ => rfl) (fun _ _ => rfl) id (fun _ => rfl) (by intro x; kernel_rfl)
end stamp_Pack
namespace central_fields
@[reducible] def lin : List (Nat × CS) := [(0, .v (.pair (.pair (.int .i64) (.pair (.pair (.int .i64) (.pair (.int .i64) (.pair (.int .i64) (.pair (.int .i64) (.pair (.int .i64) (.pair (.int .i64) .unit)))))) (.pair (.int .u32) (.pair (.int .u64) (.pair (.int .u64) (.pair .str .unit)))))) (.pair (.int .u32) (.pair (.int .u64) .unit))))]
@[reducible] def lout : List (Nat × CS) := [(2, .own 91 (.pair (.int .u64) (.pair (.int .u64) (.pair (.int .i64) .unit))))]
noncomputable def ns : NS := nsOf Go.Proofs.Tryd.f47 lin lout
noncomputable def D (n : Nat) : FuncId → Nat → Option Den := lookD []
theorem hD (n : Nat) : DenOk Go.Proofs.Tryd.prog Ty.gl (D n) := lookD_ok trivial
def rs : List ResultVar := [.tmp 2]
noncomputable def f (n : Nat) (x : CSs.den lin) : Option (CSs.den lout) := run Ty (D n) (mkH [] [] [] [] []) ns (cd Go.Proofs.Tryd.f47) (canon lin x) (retK Ty rs (Go.Func.ntmps Go.Proofs.Tryd.f47) lout id)
@[reducible] noncomputable def den (n : Nat) : Den := ⟨lin, lout, [2], [none], CSs.den lout, f n, id⟩
theorem sat (n : Nat) : Sat Go.Proofs.Tryd.prog Ty.gl 47 (den n) := sat_is hTy (hD n) Go.Proofs.Tryd.func47 rfl rfl (den n) [] [] [] [] [] (by kernel_rfl) trivial trivial (rs := rs) (by kernel_rfl) (by kernel_rfl) (by kernel_rfl) (by kernel_rfl) (by kernel_rfl) (fun _ => rfl) (fun _ _ => rfl) id (fun _ => rfl) (by intro x; kernel_rfl)
end central_fields
namespace little_held
@[reducible] def lin : List (Nat × CS) := [(0, .v (.int .i64))]
@[reducible] def lout : List (Nat × CS) := [(2, .v (.int .i64))]
noncomputable def ns : NS := nsOf Go.Proofs.Tryd.f48 lin lout
noncomputable def D (n : Nat) : FuncId → Nat → Option Den := lookD []
theorem hD (n : Nat) : DenOk Go.Proofs.Tryd.prog Ty.gl (D n) := lookD_ok trivial
def rs : List ResultVar := [.tmp 2]
noncomputable def f (n : Nat) (x : CSs.den lin) : Option (CSs.den lout) := run Ty (D n) (mkH [] [] [] [] []) ns (cd Go.Proofs.Tryd.f48) (canon lin x) (retK Ty rs (Go.Func.ntmps Go.Proofs.Tryd.f48) lout id)
@[reducible] noncomputable def den (n : Nat) : Den := ⟨lin, lout, [2], [], CSs.den lout, f n, id⟩
theorem sat (n : Nat) : Sat Go.Proofs.Tryd.prog Ty.gl 48 (den n) := sat_is hTy (hD n) Go.Proofs.Tryd.func48 rfl rfl (den n) [] [] [] [] [] (by kernel_rfl) trivial trivial (rs := rs) (by kernel_rfl) (by kernel_rfl) (by kernel_rfl) (by kernel_rfl) (by kernel_rfl) (fun _ => rfl) (fun _ _ => rfl) id (fun _ => rfl) (by intro x; kernel_rfl)
end little_held
namespace little_Put
@[reducible] def lin : List (Nat × CS) := [(0, .v (.int .u64)), (1, .v (.int .i64))]
@[reducible] def lout : List (Nat × CS) := [(4, .v (.list (.int .u8)))]
noncomputable def ns : NS := nsOf Go.Proofs.Tryd.f24 lin lout
noncomputable def D (n : Nat) : FuncId → Nat → Option Den := lookD [((48, 0), little_held.den n)]
theorem hD (n : Nat) : DenOk Go.Proofs.Tryd.prog Ty.gl (D n) := lookD_ok ⟨little_held.sat n, trivial⟩
@[reducible] def L0 : List (Nat × CS) := [(0, .v (.int .u64)), (5, .own 5 (.int .u8)), (7, .v (.int .i64)), (8, .v (.int .i64))]
@[reducible] def ws0 : List (Out × List (Nat × CS)) := [(.normal, [(5, .own 5 (.int .u8))])]
noncomputable def l0 (n m : Nat) : Nat → CSs.den L0 → Option (wayDen ws0)
  | 0, _ => none
  | k + 1, x => run Ty (D n) (mkH [] [] [] [] []) ns (lb Go.Proofs.Tryd.f24 0) (canon L0 x) (loopK 0 L0 (l0 n m k))
theorem l0_ok (n m : Nat) : HintOk Go.Proofs.Tryd.prog Ty.gl ns (.block 0 (.loop (lb Go.Proofs.Tryd.f24 0))) ⟨L0, ws0, l0 n m m⟩ :=
  loop_is hTy (hD n) [] [] [] [] [] (by kernel_rfl) trivial trivial L0 ws0 (fun _ => rfl) (ways_cons (fun _ => rfl) ways_nil) (l0 n m) (fun _ => rfl) (fun _ _ => rfl) m
def rs : List ResultVar := [.tmp 4]
noncomputable def f (n : Nat) (x : CSs.den lin) : Option (CSs.den lout) := run Ty (D n) (mkH [(0, ⟨L0, ws0, l0 n n n⟩)] [] [] [] []) ns (cd Go.Proofs.Tryd.f24) (canon lin x) (retK Ty rs (Go.Func.ntmps Go.Proofs.Tryd.f24) lout id)
@[reducible] noncomputable def den (n : Nat) : Den := ⟨lin, lout, [4], [], CSs.den lout, f n, id⟩
theorem sat (n : Nat) : Sat Go.Proofs.Tryd.prog Ty.gl 24 (den n) := sat_is hTy (hD n) Go.Proofs.Tryd.func24 rfl rfl (den n) [(0, ⟨L0, ws0, l0 n n n⟩)] [] [] [] [] (by kernel_rfl) ⟨⟨_, by kernel_rfl, l0_ok n n⟩, trivial⟩ trivial (rs := rs) (by kernel_rfl) (by kernel_rfl) (by kernel_rfl) (by kernel_rfl) (by kernel_rfl) (fun _ => rfl) (fun _ _ => rfl) id (fun _ => rfl) (by intro x; kernel_rfl)
end little_Put
namespace slices_Grow_byte_byte
@[reducible] def lin : List (Nat × CS) := [(0, .nil), (1, .v (.int .i64))]
@[reducible] def lout : List (Nat × CS) := [(4, .own 5 (.int .u8))]
noncomputable def ns : NS := nsOf Go.Proofs.Tryd.f49 lin lout
noncomputable def D (n : Nat) : FuncId → Nat → Option Den := lookD []
theorem hD (n : Nat) : DenOk Go.Proofs.Tryd.prog Ty.gl (D n) := lookD_ok trivial
def rs : List ResultVar := [.tmp 4]
noncomputable def f (n : Nat) (x : CSs.den lin) : Option (CSs.den lout) := run (Ty.keepT [25]) (D n) (mkH [] [] [] [] []) ns (cd Go.Proofs.Tryd.f49) (canon lin x) (retK (Ty.keepT [25]) rs (Go.Func.ntmps Go.Proofs.Tryd.f49) lout id)
@[reducible] noncomputable def den (n : Nat) : Den := ⟨lin, lout, [4], [none], CSs.den lout, f n, id⟩
theorem sat (n : Nat) : Sat Go.Proofs.Tryd.prog Ty.gl 49 (den n) := sat_is (hTy.keep [25]) (hD n) Go.Proofs.Tryd.func49 rfl rfl (den n) [] [] [] [] [] (by kernel_rfl) trivial trivial (rs := rs) (by kernel_rfl) (by kernel_rfl) (by kernel_rfl) (by kernel_rfl) (by kernel_rfl) (fun _ => rfl) (fun _ _ => rfl) id (fun _ => rfl) (by intro x; kernel_rfl)
end slices_Grow_byte_byte
namespace slices_Concat_byte_byte
@[reducible] def lin : List (Nat × CS) := [(0, .v (.list (.list (.int .u8))))]
@[reducible] def lout : List (Nat × CS) := [(2, .own 5 (.int .u8))]
noncomputable def ns : NS := nsOf Go.Proofs.Tryd.f25 lin lout
noncomputable def D (n : Nat) : FuncId → Nat → Option Den := lookD [((49, 0), slices_Grow_byte_byte.den n)]
theorem hD (n : Nat) : DenOk Go.Proofs.Tryd.prog Ty.gl (D n) := lookD_ok ⟨slices_Grow_byte_byte.sat n, trivial⟩
@[reducible] def L0 : List (Nat × CS) := [(0, .v (.list (.list (.int .u8)))), (3, .v (.int .i64)), (9, .v (.list (.list (.int .u8)))), (10, .v (.int .i64)), (11, .v (.int .i64))]
@[reducible] def ws0 : List (Out × List (Nat × CS)) := [(.normal, [(0, .v (.list (.list (.int .u8)))), (3, .v (.int .i64))])]
noncomputable def l0 (n m : Nat) : Nat → CSs.den L0 → Option (wayDen ws0)
  | 0, _ => none
  | k + 1, x => run Ty (D n) (mkH [] [] [] [] []) ns (lb Go.Proofs.Tryd.f25 0) (canon L0 x) (loopK 0 L0 (l0 n m k))
theorem l0_ok (n m : Nat) : HintOk Go.Proofs.Tryd.prog Ty.gl ns (.block 0 (.loop (lb Go.Proofs.Tryd.f25 0))) ⟨L0, ws0, l0 n m m⟩ :=
  loop_is hTy (hD n) [] [] [] [] [] (by kernel_rfl) trivial trivial L0 ws0 (fun _ => rfl) (ways_cons (fun _ => rfl) ways_nil) (l0 n m) (fun _ => rfl) (fun _ _ => rfl) m
@[reducible] def L2 : List (Nat × CS) := [(6, .own 5 (.int .u8)), (25, .v (.list (.list (.int .u8)))), (26, .v (.int .i64)), (27, .v (.int .i64))]
@[reducible] def ws2 : List (Out × List (Nat × CS)) := [(.normal, [(6, .own 5 (.int .u8))])]
noncomputable def l2 (n m : Nat) : Nat → CSs.den L2 → Option (wayDen ws2)
  | 0, _ => none
  | k + 1, x => run Ty (D n) (mkH [] [] [] [] []) ns (lb Go.Proofs.Tryd.f25 2) (canon L2 x) (loopK 2 L2 (l2 n m k))
theorem l2_ok (n m : Nat) : HintOk Go.Proofs.Tryd.prog Ty.gl ns (.block 2 (.loop (lb Go.Proofs.Tryd.f25 2))) ⟨L2, ws2, l2 n m m⟩ :=
  loop_is hTy (hD n) [] [] [] [] [] (by kernel_rfl) trivial trivial L2 ws2 (fun _ => rfl) (ways_cons (fun _ => rfl) ways_nil) (l2 n m) (fun _ => rfl) (fun _ _ => rfl) m
def rs : List ResultVar := [.tmp 2]
noncomputable def f (n : Nat) (x : CSs.den lin) : Option (CSs.den lout) := run Ty (D n) (mkH [(0, ⟨L0, ws0, l0 n n n⟩), (2, ⟨L2, ws2, l2 n n n⟩)] [] [] [] []) ns (cd Go.Proofs.Tryd.f25) (canon lin x) (retK Ty rs (Go.Func.ntmps Go.Proofs.Tryd.f25) lout id)
@[reducible] noncomputable def den (n : Nat) : Den := ⟨lin, lout, [2], [none], CSs.den lout, f n, id⟩
theorem sat (n : Nat) : Sat Go.Proofs.Tryd.prog Ty.gl 25 (den n) := sat_is hTy (hD n) Go.Proofs.Tryd.func25 rfl rfl (den n) [(0, ⟨L0, ws0, l0 n n n⟩), (2, ⟨L2, ws2, l2 n n n⟩)] [] [] [] [] (by kernel_rfl) ⟨⟨_, by kernel_rfl, l0_ok n n⟩, ⟨_, by kernel_rfl, l2_ok n n⟩, trivial⟩ trivial (rs := rs) (by kernel_rfl) (by kernel_rfl) (by kernel_rfl) (by kernel_rfl) (by kernel_rfl) (fun _ => rfl) (fun _ _ => rfl) id (fun _ => rfl) (by intro x; kernel_rfl)
end slices_Concat_byte_byte
namespace central_extra
@[reducible] def lin : List (Nat × CS) := [(0, .v (.pair (.pair (.int .i64) (.pair (.pair (.int .i64) (.pair (.int .i64) (.pair (.int .i64) (.pair (.int .i64) (.pair (.int .i64) (.pair (.int .i64) .unit)))))) (.pair (.int .u32) (.pair (.int .u64) (.pair (.int .u64) (.pair .str .unit)))))) (.pair (.int .u32) (.pair (.int .u64) .unit))))]
@[reducible] def lout : List (Nat × CS) := [(2, .own 5 (.int .u8))]
noncomputable def ns : NS := nsOf Go.Proofs.Tryd.f22 lin lout
noncomputable def D (n : Nat) : FuncId → Nat → Option Den := lookD [((47, 0), central_fields.den n), ((24, 0), little_Put.den n), ((25, 0), slices_Concat_byte_byte.den n)]
theorem hD (n : Nat) : DenOk Go.Proofs.Tryd.prog Ty.gl (D n) := lookD_ok ⟨central_fields.sat n, little_Put.sat n, slices_Concat_byte_byte.sat n, trivial⟩
@[reducible] def L0 : List (Nat × CS) := [(3, .own 5 (.int .u8)), (7, .own 91 (.pair (.int .u64) (.pair (.int .u64) (.pair (.int .i64) .unit)))), (8, .v (.int .i64)), (9, .v (.int .i64))]
@[reducible] def ws0 : List (Out × List (Nat × CS)) := [(.normal, [(3, .own 5 (.int .u8))])]
noncomputable def l0 (n m : Nat) : Nat → CSs.den L0 → Option (wayDen ws0)
  | 0, _ => none
  | k + 1, x => run Ty (D n) (mkH [] [] [] [] [(17, [(.normal, [(3, .own 5 (.int .u8)), (7, .own 91 (.pair (.int .u64) (.pair (.int .u64) (.pair (.int .i64) .unit)))), (8, .v (.int .i64)), (9, .v (.int .i64))])])]) ns (lb Go.Proofs.Tryd.f22 0) (canon L0 x) (loopK 0 L0 (l0 n m k))
theorem l0_ok (n m : Nat) : HintOk Go.Proofs.Tryd.prog Ty.gl ns (.block 0 (.loop (lb Go.Proofs.Tryd.f22 0))) ⟨L0, ws0, l0 n m m⟩ :=
  loop_is hTy (hD n) [] [] [] [] [(17, [(.normal, [(3, .own 5 (.int .u8)), (7, .own 91 (.pair (.int .u64) (.pair (.int .u64) (.pair (.int .i64) .unit)))), (8, .v (.int .i64)), (9, .v (.int .i64))])])] (by kernel_rfl) trivial trivial L0 ws0 (fun _ => rfl) (ways_cons (fun _ => rfl) ways_nil) (l0 n m) (fun _ => rfl) (fun _ _ => rfl) m
def rs : List ResultVar := [.tmp 2]
noncomputable def f (n : Nat) (x : CSs.den lin) : Option (CSs.den lout) := run Ty (D n) (mkH [(0, ⟨L0, ws0, l0 n n n⟩)] [] [] [] [(17, [(.normal, [(3, .own 5 (.int .u8)), (7, .own 91 (.pair (.int .u64) (.pair (.int .u64) (.pair (.int .i64) .unit)))), (8, .v (.int .i64)), (9, .v (.int .i64))])])]) ns (cd Go.Proofs.Tryd.f22) (canon lin x) (retK Ty rs (Go.Func.ntmps Go.Proofs.Tryd.f22) lout id)
@[reducible] noncomputable def den (n : Nat) : Den := ⟨lin, lout, [2], [none], CSs.den lout, f n, id⟩
theorem sat (n : Nat) : Sat Go.Proofs.Tryd.prog Ty.gl 22 (den n) := sat_is hTy (hD n) Go.Proofs.Tryd.func22 rfl rfl (den n) [(0, ⟨L0, ws0, l0 n n n⟩)] [] [] [] [(17, [(.normal, [(3, .own 5 (.int .u8)), (7, .own 91 (.pair (.int .u64) (.pair (.int .u64) (.pair (.int .i64) .unit)))), (8, .v (.int .i64)), (9, .v (.int .i64))])])] (by kernel_rfl) ⟨⟨_, by kernel_rfl, l0_ok n n⟩, trivial⟩ trivial (rs := rs) (by kernel_rfl) (by kernel_rfl) (by kernel_rfl) (by kernel_rfl) (by kernel_rfl) (fun _ => rfl) (fun _ _ => rfl) id (fun _ => rfl) (by intro x; kernel_rfl)
end central_extra
namespace central_Write_1
@[reducible] def lin : List (Nat × CS) := [(0, .v (.int .u64)), (1, .v (.int .i64)), (2, .box 31 [.own 5 (.int .u8)])]
@[reducible] def lout : List (Nat × CS) := [(2, .box 31 [.own 5 (.int .u8)])]
noncomputable def ns : NS := nsOf Go.Proofs.Tryd.f23 lin lout
noncomputable def D (n : Nat) : FuncId → Nat → Option Den := lookD [((24, 0), little_Put.den n)]
theorem hD (n : Nat) : DenOk Go.Proofs.Tryd.prog Ty.gl (D n) := lookD_ok ⟨little_Put.sat n, trivial⟩
def rs : List ResultVar := []
noncomputable def f (n : Nat) (x : CSs.den lin) : Option (CSs.den lout) := run Ty (D n) (mkH [] [(0, ⟨[], [(.mem, 1), (.mem, 2), (.late, 3), (.step, 0), (.sync, 0), (.step, 4), (.step, 5)]⟩)] [] [] []) ns (cd Go.Proofs.Tryd.f23) (canon lin x) (retK Ty rs (Go.Func.ntmps Go.Proofs.Tryd.f23) lout id)
@[reducible] noncomputable def den (n : Nat) : Den := ⟨lin, lout, [], [some (.inr 0), none], CSs.den lout, f n, id⟩
theorem sat (n : Nat) : Sat Go.Proofs.Tryd.prog Ty.gl 23 (den n) := sat_is hTy (hD n) Go.Proofs.Tryd.func23 rfl rfl (den n) [] [(0, ⟨[], [(.mem, 1), (.mem, 2), (.late, 3), (.step, 0), (.sync, 0), (.step, 4), (.step, 5)]⟩)] [] [] [] (by kernel_rfl) trivial trivial (rs := rs) (by kernel_rfl) (by kernel_rfl) (by kernel_rfl) (by kernel_rfl) (by kernel_rfl) (fun _ => rfl) (fun _ _ => rfl) id (fun _ => rfl) (by intro x; kernel_rfl)
end central_Write_1
namespace central_Write
@[reducible] def lin : List (Nat × CS) := [(0, .v (.pair (.pair (.int .i64) (.pair (.pair (.int .i64) (.pair (.int .i64) (.pair (.int .i64) (.pair (.int .i64) (.pair (.int .i64) (.pair (.int .i64) .unit)))))) (.pair (.int .u32) (.pair (.int .u64) (.pair (.int .u64) (.pair .str .unit)))))) (.pair (.int .u32) (.pair (.int .u64) .unit))))]
@[reducible] def lout : List (Nat × CS) := [(2, .own 5 (.int .u8)), (3, .v (.int .i64))]
noncomputable def ns : NS := nsOf Go.Proofs.Tryd.f9 lin lout
noncomputable def D (n : Nat) : FuncId → Nat → Option Den := lookD [((20, 0), central_check.den n), ((21, 0), stamp_Pack.den n), ((22, 0), central_extra.den n), ((23, 0), central_Write_1.den n), ((25, 0), slices_Concat_byte_byte.den n)]
theorem hD (n : Nat) : DenOk Go.Proofs.Tryd.prog Ty.gl (D n) := lookD_ok ⟨central_check.sat n, stamp_Pack.sat n, central_extra.sat n, central_Write_1.sat n, slices_Concat_byte_byte.sat n, trivial⟩
@[reducible] def L0 : List (Nat × CS) := [(1, .box 29 [.v (.int .i64), .v (.int .i64), .v (.int .i64), .v (.int .i64), .v (.int .i64), .v (.int .i64), .v (.int .i64), .v (.int .u32), .v (.int .u64), .v (.int .u64), .v .str, .v (.int .u32), .v (.int .u64)]), (8, .own 5 (.int .u8)), (10, .box 31 [.own 5 (.int .u8)]), (11, .fn 23 [.at 2]), (46, .own 25 (.int .u64)), (47, .v (.int .i64)), (48, .v (.int .i64))]
@[reducible] def ws0 : List (Out × List (Nat × CS)) := [(.normal, [(1, .box 29 [.v (.int .i64), .v (.int .i64), .v (.int .i64), .v (.int .i64), .v (.int .i64), .v (.int .i64), .v (.int .i64), .v (.int .u32), .v (.int .u64), .v (.int .u64), .v .str, .v (.int .u32), .v (.int .u64)]), (8, .own 5 (.int .u8)), (10, .box 31 [.own 5 (.int .u8)]), (11, .fn 23 [.at 2])])]
noncomputable def l0 (n m : Nat) : Nat → CSs.den L0 → Option (wayDen ws0)
  | 0, _ => none
  | k + 1, x => run Ty (D n) (mkH [] [] [] [] []) ns (lb Go.Proofs.Tryd.f9 0) (canon L0 x) (loopK 0 L0 (l0 n m k))
theorem l0_ok (n m : Nat) : HintOk Go.Proofs.Tryd.prog Ty.gl ns (.block 0 (.loop (lb Go.Proofs.Tryd.f9 0))) ⟨L0, ws0, l0 n m m⟩ :=
  loop_is hTy (hD n) [] [] [] [] [] (by kernel_rfl) trivial trivial L0 ws0 (fun _ => rfl) (ways_cons (fun _ => rfl) ways_nil) (l0 n m) (fun _ => rfl) (fun _ _ => rfl) m
@[reducible] def L2 : List (Nat × CS) := [(1, .box 29 [.v (.int .i64), .v (.int .i64), .v (.int .i64), .v (.int .i64), .v (.int .i64), .v (.int .i64), .v (.int .i64), .v (.int .u32), .v (.int .u64), .v (.int .u64), .v .str, .v (.int .u32), .v (.int .u64)]), (8, .own 5 (.int .u8)), (10, .box 31 [.own 5 (.int .u8)]), (11, .fn 23 [.at 2]), (86, .own 25 (.int .u64)), (87, .v (.int .i64)), (88, .v (.int .i64))]
@[reducible] def ws2 : List (Out × List (Nat × CS)) := [(.normal, [(1, .box 29 [.v (.int .i64), .v (.int .i64), .v (.int .i64), .v (.int .i64), .v (.int .i64), .v (.int .i64), .v (.int .i64), .v (.int .u32), .v (.int .u64), .v (.int .u64), .v .str, .v (.int .u32), .v (.int .u64)]), (8, .own 5 (.int .u8)), (10, .box 31 [.own 5 (.int .u8)]), (11, .fn 23 [.at 2])])]
noncomputable def l2 (n m : Nat) : Nat → CSs.den L2 → Option (wayDen ws2)
  | 0, _ => none
  | k + 1, x => run Ty (D n) (mkH [] [] [] [] []) ns (lb Go.Proofs.Tryd.f9 2) (canon L2 x) (loopK 2 L2 (l2 n m k))
theorem l2_ok (n m : Nat) : HintOk Go.Proofs.Tryd.prog Ty.gl ns (.block 2 (.loop (lb Go.Proofs.Tryd.f9 2))) ⟨L2, ws2, l2 n m m⟩ :=
  loop_is hTy (hD n) [] [] [] [] [] (by kernel_rfl) trivial trivial L2 ws2 (fun _ => rfl) (ways_cons (fun _ => rfl) ways_nil) (l2 n m) (fun _ => rfl) (fun _ _ => rfl) m
def rs : List ResultVar := [.tmp 2, .tmp 3]
noncomputable def f (n : Nat) (x : CSs.den lin) : Option (CSs.den lout) := run Ty (D n) (mkH [(0, ⟨L0, ws0, l0 n n n⟩), (2, ⟨L2, ws2, l2 n n n⟩)] [] [] [] [(33, [(.normal, [(1, .box 29 [.v (.int .i64), .v (.int .i64), .v (.int .i64), .v (.int .i64), .v (.int .i64), .v (.int .i64), .v (.int .i64), .v (.int .u32), .v (.int .u64), .v (.int .u64), .v .str, .v (.int .u32), .v (.int .u64)]), (5, .v (.int .u16)), (6, .v (.int .u16)), (8, .own 5 (.int .u8)), (9, .v (.int .u64))])])]) ns (cd Go.Proofs.Tryd.f9) (canon lin x) (retK Ty rs (Go.Func.ntmps Go.Proofs.Tryd.f9) lout id)
@[reducible] noncomputable def den (n : Nat) : Den := ⟨lin, lout, [2, 3], [none], CSs.den lout, f n, id⟩
theorem sat (n : Nat) : Sat Go.Proofs.Tryd.prog Ty.gl 9 (den n) := sat_is hTy (hD n) Go.Proofs.Tryd.func9 rfl rfl (den n) [(0, ⟨L0, ws0, l0 n n n⟩), (2, ⟨L2, ws2, l2 n n n⟩)] [] [] [] [(33, [(.normal, [(1, .box 29 [.v (.int .i64), .v (.int .i64), .v (.int .i64), .v (.int .i64), .v (.int .i64), .v (.int .i64), .v (.int .i64), .v (.int .u32), .v (.int .u64), .v (.int .u64), .v .str, .v (.int .u32), .v (.int .u64)]), (5, .v (.int .u16)), (6, .v (.int .u16)), (8, .own 5 (.int .u8)), (9, .v (.int .u64))])])] (by kernel_rfl) ⟨⟨_, by kernel_rfl, l0_ok n n⟩, ⟨_, by kernel_rfl, l2_ok n n⟩, trivial⟩ trivial (rs := rs) (by kernel_rfl) (by kernel_rfl) (by kernel_rfl) (by kernel_rfl) (by kernel_rfl) (fun _ => rfl) (fun _ _ => rfl) id (fun _ => rfl) (by intro x; kernel_rfl)
end central_Write
namespace little_Read
@[reducible] def lin : List (Nat × CS) := [(0, .v (.list (.int .u8)))]
@[reducible] def lout : List (Nat × CS) := [(2, .box 102 [.v (.list (.int .u8)), .v (.int .i64), .v .bool])]
noncomputable def ns : NS := nsOf Go.Proofs.Tryd.f30 lin lout
noncomputable def D (n : Nat) : FuncId → Nat → Option Den := lookD []
theorem hD (n : Nat) : DenOk Go.Proofs.Tryd.prog Ty.gl (D n) := lookD_ok trivial
def rs : List ResultVar := [.tmp 2]
noncomputable def f (n : Nat) (x : CSs.den lin) : Option (CSs.den lout) := run Ty (D n) (mkH [] [] [] [] []) ns (cd Go.Proofs.Tryd.f30) (canon lin x) (retK Ty rs (Go.Func.ntmps Go.Proofs.Tryd.f30) lout id)
@[reducible] noncomputable def den (n : Nat) : Den := ⟨lin, lout, [2], [none], CSs.den lout, f n, id⟩
theorem sat (n : Nat) : Sat Go.Proofs.Tryd.prog Ty.gl 30 (den n) := sat_is hTy (hD n) Go.Proofs.Tryd.func30 rfl rfl (den n) [] [] [] [] [] (by kernel_rfl) trivial trivial (rs := rs) (by kernel_rfl) (by kernel_rfl) (by kernel_rfl) (by kernel_rfl) (by kernel_rfl) (fun _ => rfl) (fun _ _ => rfl) id (fun _ => rfl) (by intro x; kernel_rfl)
end little_Read
namespace little_Reader_Left
@[reducible] def lin : List (Nat × CS) := [(0, .box 102 [.v (.list (.int .u8)), .v (.int .i64), .v .bool])]
@[reducible] def lout : List (Nat × CS) := [(0, .box 102 [.v (.list (.int .u8)), .v (.int .i64), .v .bool]), (2, .v (.int .i64))]
noncomputable def ns : NS := nsOf Go.Proofs.Tryd.f36 lin lout
noncomputable def D (n : Nat) : FuncId → Nat → Option Den := lookD []
theorem hD (n : Nat) : DenOk Go.Proofs.Tryd.prog Ty.gl (D n) := lookD_ok trivial
def rs : List ResultVar := [.tmp 2]
noncomputable def f (n : Nat) (x : CSs.den lin) : Option (CSs.den lout) := run Ty (D n) (mkH [] [(1, ⟨[0], [(.mem, 0), (.mem, 1), (.mem, 2), (.mem, 3), (.mem, 4), (.mem, 5), (.mem, 6), (.mem, 7), (.mem, 8), (.mem, 9), (.mem, 10)]⟩)] [] [] []) ns (cd Go.Proofs.Tryd.f36) (canon lin x) (retK Ty rs (Go.Func.ntmps Go.Proofs.Tryd.f36) lout id)
@[reducible] noncomputable def den (n : Nat) : Den := ⟨lin, lout, [2], [some (.inr 0)], CSs.den lout, f n, id⟩
theorem sat (n : Nat) : Sat Go.Proofs.Tryd.prog Ty.gl 36 (den n) := sat_is hTy (hD n) Go.Proofs.Tryd.func36 rfl rfl (den n) [] [(1, ⟨[0], [(.mem, 0), (.mem, 1), (.mem, 2), (.mem, 3), (.mem, 4), (.mem, 5), (.mem, 6), (.mem, 7), (.mem, 8), (.mem, 9), (.mem, 10)]⟩)] [] [] [] (by kernel_rfl) trivial trivial (rs := rs) (by kernel_rfl) (by kernel_rfl) (by kernel_rfl) (by kernel_rfl) (by kernel_rfl) (fun _ => rfl) (fun _ _ => rfl) id (fun _ => rfl) (by intro x; kernel_rfl)
end little_Reader_Left
namespace slices_Clone_byte_byte
@[reducible] def lin : List (Nat × CS) := [(0, .v (.list (.int .u8)))]
@[reducible] def lout : List (Nat × CS) := [(2, .own 5 (.int .u8))]
noncomputable def ns : NS := nsOf Go.Proofs.Tryd.f55 lin lout
noncomputable def D (n : Nat) : FuncId → Nat → Option Den := lookD []
theorem hD (n : Nat) : DenOk Go.Proofs.Tryd.prog Ty.gl (D n) := lookD_ok trivial
def rs : List ResultVar := [.tmp 2]
def st (x : CSs.den lin) : St := (canon lin x).set 0 (.one (.nn (.int .u8) x.1))
def f (n : Nat) (x : CSs.den lin) : Option (CSs.den lout) := if (List.length x.1 : Int) ≤ lim then some (x.1, ()) else none
theorem run_eq (n : Nat) (x : CSs.den lin) : run Ty (D n) (mkH [] [] [] [] []) ns (cd Go.Proofs.Tryd.f55) (st x) (retK Ty rs (Go.Func.ntmps Go.Proofs.Tryd.f55) lout id) = if (0 : Int) + (List.length x.1 : Int) ≤ lim then some (([] : List (Ki.den (.int .u8))) ++ x.1, ()) else none := rfl
@[reducible] noncomputable def den (n : Nat) : Den := ⟨lin, lout, [2], [none], CSs.den lout, f n, id⟩
theorem sat (n : Nat) : Sat Go.Proofs.Tryd.prog Ty.gl 55 (den n) := by
  refine ⟨fun w F own vs E x ra hvl hw hrel hlive hx => ?_, Go.Proofs.Tryd.f55, Go.Proofs.Tryd.func55, rfl, rfl⟩
  have hs : VRv E.w (E.F (callCtx Go.Proofs.Tryd.prog w F own Ty.gl ⟨vs.length, []⟩ noAg)) (.list (.int .u8)) x.1 (vs.toArray.getD 0 undef) := hrel.slots 0
  obtain ⟨A, c, hv, hl, hm, hh⟩ := list_cells hs
  have hfx : (List.length x.1 : Int) ≤ lim ∧ ra = (x.1, ()) := by
    have : (if (List.length x.1 : Int) ≤ lim then some (x.1, ()) else none) = some ra := hx
    split at this
    · rename_i hc; exact ⟨hc, (Option.some.inj this).symm⟩
    · cases this
  obtain ⟨hlim, rfl⟩ := hfx
  cases A with
  | some ad =>
    refine call_of_run hTy (hD n) Go.Proofs.Tryd.func55 rfl (den n) (rs := rs) (by kernel_rfl) (by kernel_rfl) (by kernel_rfl) (by kernel_rfl) (Nat.le_of_ble_eq_true (by kernel_rfl)) (fun _ => (show (0 : Nat) ≤ 1000 by omega)) (fun _ _ => rfl) (c := cd Go.Proofs.Tryd.f55) (H := mkH [] [] [] [] []) (hints_of (by kernel_rfl) trivial trivial) id (fun _ => rfl) hvl hw hrel hlive ⟨st x, fun C' a' h ht hP => ?_, fun id hid hlv => ?_, ?_⟩
    · have h0 := h.slots 0
      exact { h with
        slots := fun t => by
          show SLR C' E (sel t 0 (.one (.nn (.int .u8) x.1)) ((canon lin x).sl t)) _
          rw [sel_eq]
          by_cases h0t : t = 0
          · subst h0t
            rw [if_pos rfl]
            exact ⟨h0, ad, _, c, by rw [ht]; exact hv⟩
          · rw [if_neg h0t]; exact h.slots t
        rows := h.rows
        boxes := h.boxes
        idr := h.idr
        idb := h.idb }
    · exact fresh_canon (x := x) hlive (by show (0 : Nat) ≤ 1000; omega) id hid hlv
    · exact (run_eq n x).trans (by rw [if_pos (by rw [Int.zero_add]; exact hlim), List.nil_append])
  | none =>
    have hx0 : x.1 = [] := by
      rcases hh with ⟨h0, _⟩ | ⟨b, o, cs, h0, _⟩
      · exact h0
      · cases h0
    have hvs : vs = [.slice none 0 c] := by
      match vs, hvl, hv with
      | [v], _, hv =>
        have : v = .slice none x.1.length c := hv
        rw [this, hx0]; rfl
    subst hw
    have hcall : Calls Go.Proofs.Tryd.prog 55 vs.toArray E.w (fun e w' => e = .returned (.slice none 0 0) ∧ w' = E.w) := by
      rw [hvs]
      have heq := fun (w : World) => Lib.run_eql_slice_nil (P := Go.Proofs.Tryd.prog) w 31 5 none 0 c 0 0 Go.Proofs.Tryd.underlying31
      simp only [Option.isNone_none] at heq
      go_enter Go.Proofs.Tryd.func55, Go.Proofs.Tryd.ntmps55
      go_wp2
      go_ret
      exact ⟨rfl, rfl⟩
    refine hcall.mono ?_
    rintro e w' ⟨rfl, rfl⟩
    obtain ⟨us, hus⟩ : ∃ us : List Value, us = List.replicate 50 (.slice none 0 0) := ⟨_, rfl⟩
    refine ⟨_, us, ⟨fun b => none, fun _ => .slice none 0 0, fun _ => 0, E.w, fun j => j = 0⟩, rfl, rfl, by rw [hus]; rfl, ?_, fun id hid => by have : id = 0 := hid; subst this; show 0 < 1; omega, fun j i => ⟨fun h => ?_, fun h => ?_⟩⟩
    · have hgl : ∀ b, E.F (callCtx Go.Proofs.Tryd.prog E.w F own Ty.gl ⟨vs.length, []⟩ noAg) b → Env.F (callCtx Go.Proofs.Tryd.prog E.w F own Ty.gl ⟨us.length, []⟩ noAg) ⟨fun b => none, fun _ => .slice none 0 0, fun _ => 0, E.w, fun j => j = 0⟩ b ∧ E.w.heap[b]? = E.w.heap[b]? := fun b hb => ⟨⟨rfl, hb.2⟩, rfl⟩
      refine {
        slots := fun t => ?_
        rows := fun id r hr => ?_
        boxes := fun id b hb => ?_
        ownlt := fun b o ho => by cases ho
        keep := ⟨rfl, rfl, rfl, Nat.le_refl _, fun _ _ _ => rfl⟩
        size := by show (List.toArray us).size = us.length; simp
        arg := fun t ht => by cases (show false = true from ht)
        defers := rfl
        idr := fun id r hr => ?_
        idb := fun id b hb => ?_
        glob := fun g v hv => by
          obtain ⟨e1, e2⟩ := hrel.glob g v hv
          refine ⟨(hgl g e1).1, fun i y hy => ?_⟩
          obtain ⟨ds, f1, f2⟩ := e2 i y hy
          exact ⟨ds, f1.mono hgl, f2⟩ }
      · by_cases ht : t = 2
        · subst ht
          refine ⟨rfl, ?_⟩
          show us.toArray.getD 2 undef = .slice none 0 0
          rw [hus]; rfl
        · show SLR _ _ (match look (canL lout (x.1, ()) 0).1 t with | some s => s | none => .one .undef) _
          have : look (canL lout (x.1, ()) 0).1 t = none := by
            show look [(2, SL.one (.row 0))] t = none
            unfold look
            have hb : Nat.beq 2 t = false := by cases hb : Nat.beq 2 t <;> first | rfl | exact absurd (Nat.eq_of_beq_eq_true hb).symm ht
            rw [hb]; rfl
          rw [this]; trivial
      · have h0 := canon_row hr
        match id, h0 with
        | 0, h0 =>
          have : (⟨5, (.int .u8), x.1, false⟩ : RowC) = r := by have := h0; simp only [canL, csV, List.append_nil, List.getElem?_cons_zero, Option.some.injEq, Ob.row.injEq] at this; exact this
          subst this
          exact .inl ⟨hx0, rfl⟩
        | id + 1, h0 => simp [canL, csV] at h0
      · have h0 := canon_box hb
        match id, h0 with
        | 0, h0 => simp [canL, csV] at h0
        | id + 1, h0 => simp [canL, csV] at h0
      · have h0 := canon_row hr
        match id, h0 with
        | 0, h0 => rfl
        | id + 1, h0 => simp [canL, csV] at h0
      · have h0 := canon_box hb
        match id, h0 with
        | 0, h0 => simp [canL, csV] at h0
        | id + 1, h0 => simp [canL, csV] at h0
    · cases j with
      | zero => cases h
      | succ j => cases h
    · cases j with
      | zero => cases h
      | succ j => cases h
end slices_Clone_byte_byte
namespace little_Reader_Bytes
@[reducible] def lin : List (Nat × CS) := [(0, .box 102 [.v (.list (.int .u8)), .v (.int .i64), .v .bool]), (1, .v (.int .i64))]
@[reducible] def lout : List (Nat × CS) := [(0, .box 102 [.v (.list (.int .u8)), .v (.int .i64), .v .bool]), (4, .own 5 (.int .u8))]
noncomputable def ns : NS := nsOf Go.Proofs.Tryd.f32 lin lout
noncomputable def D (n : Nat) : FuncId → Nat → Option Den := lookD [((36, 0), little_Reader_Left.den n), ((55, 0), slices_Clone_byte_byte.den n)]
theorem hD (n : Nat) : DenOk Go.Proofs.Tryd.prog Ty.gl (D n) := lookD_ok ⟨little_Reader_Left.sat n, slices_Clone_byte_byte.sat n, trivial⟩
def rs : List ResultVar := [.tmp 4]
noncomputable def f (n : Nat) (x : CSs.den lin) : Option (CSs.den lout) := run Ty (D n) (mkH [] [(6, ⟨[0], [(.mem, 0), (.mem, 1), (.mem, 2), (.mem, 3), (.mem, 4), (.mem, 5), (.mem, 6), (.mem, 7), (.mem, 8), (.mem, 9), (.mem, 10), (.mem, 11), (.mem, 12), (.mem, 13), (.mem, 14), (.step, 15), (.cur, 16)]⟩)] [] [] []) ns (cd Go.Proofs.Tryd.f32) (canon lin x) (retK Ty rs (Go.Func.ntmps Go.Proofs.Tryd.f32) lout id)
@[reducible] noncomputable def den (n : Nat) : Den := ⟨lin, lout, [4], [some (.inr 0), none], CSs.den lout, f n, id⟩
theorem sat (n : Nat) : Sat Go.Proofs.Tryd.prog Ty.gl 32 (den n) := sat_is hTy (hD n) Go.Proofs.Tryd.func32 rfl rfl (den n) [] [(6, ⟨[0], [(.mem, 0), (.mem, 1), (.mem, 2), (.mem, 3), (.mem, 4), (.mem, 5), (.mem, 6), (.mem, 7), (.mem, 8), (.mem, 9), (.mem, 10), (.mem, 11), (.mem, 12), (.mem, 13), (.mem, 14), (.step, 15), (.cur, 16)]⟩)] [] [] [] (by kernel_rfl) trivial trivial (rs := rs) (by kernel_rfl) (by kernel_rfl) (by kernel_rfl) (by kernel_rfl) (by kernel_rfl) (fun _ => rfl) (fun _ _ => rfl) id (fun _ => rfl) (by intro x; kernel_rfl)
end little_Reader_Bytes
namespace little_Get
@[reducible] def lin : List (Nat × CS) := [(0, .v (.list (.int .u8)))]
@[reducible] def lout : List (Nat × CS) := [(2, .v (.int .u64))]
noncomputable def ns : NS := nsOf Go.Proofs.Tryd.f35 lin lout
noncomputable def D (n : Nat) : FuncId → Nat → Option Den := lookD []
theorem hD (n : Nat) : DenOk Go.Proofs.Tryd.prog Ty.gl (D n) := lookD_ok trivial
@[reducible] def L0 : List (Nat × CS) := [(0, .v (.list (.int .u8))), (3, .v (.int .u64)), (4, .v (.int .i64))]
@[reducible] def ws0 : List (Out × List (Nat × CS)) := [(.normal, [(3, .v (.int .u64))])]
noncomputable def l0 (n m : Nat) : Nat → CSs.den L0 → Option (wayDen ws0)
  | 0, _ => none
  | k + 1, x => run Ty (D n) (mkH [] [] [] [] []) ns (lb Go.Proofs.Tryd.f35 0) (canon L0 x) (loopK 0 L0 (l0 n m k))
theorem l0_ok (n m : Nat) : HintOk Go.Proofs.Tryd.prog Ty.gl ns (.block 0 (.loop (lb Go.Proofs.Tryd.f35 0))) ⟨L0, ws0, l0 n m m⟩ :=
  loop_is hTy (hD n) [] [] [] [] [] (by kernel_rfl) trivial trivial L0 ws0 (fun _ => rfl) (ways_cons (fun _ => rfl) ways_nil) (l0 n m) (fun _ => rfl) (fun _ _ => rfl) m
def rs : List ResultVar := [.tmp 2]
noncomputable def f (n : Nat) (x : CSs.den lin) : Option (CSs.den lout) := run Ty (D n) (mkH [(0, ⟨L0, ws0, l0 n n n⟩)] [] [] [] []) ns (cd Go.Proofs.Tryd.f35) (canon lin x) (retK Ty rs (Go.Func.ntmps Go.Proofs.Tryd.f35) lout id)
@[reducible] noncomputable def den (n : Nat) : Den := ⟨lin, lout, [2], [], CSs.den lout, f n, id⟩
theorem sat (n : Nat) : Sat Go.Proofs.Tryd.prog Ty.gl 35 (den n) := sat_is hTy (hD n) Go.Proofs.Tryd.func35 rfl rfl (den n) [(0, ⟨L0, ws0, l0 n n n⟩)] [] [] [] [] (by kernel_rfl) ⟨⟨_, by kernel_rfl, l0_ok n n⟩, trivial⟩ trivial (rs := rs) (by kernel_rfl) (by kernel_rfl) (by kernel_rfl) (by kernel_rfl) (by kernel_rfl) (fun _ => rfl) (fun _ _ => rfl) id (fun _ => rfl) (by intro x; kernel_rfl)
end little_Get
namespace little_Reader_Num
@[reducible] def lin : List (Nat × CS) := [(0, .box 102 [.v (.list (.int .u8)), .v (.int .i64), .v .bool]), (1, .v (.int .i64))]
@[reducible] def lout : List (Nat × CS) := [(0, .box 102 [.v (.list (.int .u8)), .v (.int .i64), .v .bool]), (4, .v (.int .u64))]
noncomputable def ns : NS := nsOf Go.Proofs.Tryd.f31 lin lout
noncomputable def D (n : Nat) : FuncId → Nat → Option Den := lookD [((48, 0), little_held.den n), ((32, 0), little_Reader_Bytes.den n), ((35, 0), little_Get.den n)]
theorem hD (n : Nat) : DenOk Go.Proofs.Tryd.prog Ty.gl (D n) := lookD_ok ⟨little_held.sat n, little_Reader_Bytes.sat n, little_Get.sat n, trivial⟩
def rs : List ResultVar := [.tmp 4]
noncomputable def f (n : Nat) (x : CSs.den lin) : Option (CSs.den lout) := run Ty (D n) (mkH [] [] [] [] []) ns (cd Go.Proofs.Tryd.f31) (canon lin x) (retK Ty rs (Go.Func.ntmps Go.Proofs.Tryd.f31) lout id)
@[reducible] noncomputable def den (n : Nat) : Den := ⟨lin, lout, [4], [some (.inr 0)], CSs.den lout, f n, id⟩
theorem sat (n : Nat) : Sat Go.Proofs.Tryd.prog Ty.gl 31 (den n) := sat_is hTy (hD n) Go.Proofs.Tryd.func31 rfl rfl (den n) [] [] [] [] [] (by kernel_rfl) trivial trivial (rs := rs) (by kernel_rfl) (by kernel_rfl) (by kernel_rfl) (by kernel_rfl) (by kernel_rfl) (fun _ => rfl) (fun _ _ => rfl) id (fun _ => rfl) (by intro x; kernel_rfl)
end little_Reader_Num
namespace little_Reader_Short
@[reducible] def lin : List (Nat × CS) := [(0, .box 102 [.v (.list (.int .u8)), .v (.int .i64), .v .bool])]
@[reducible] def lout : List (Nat × CS) := [(0, .box 102 [.v (.list (.int .u8)), .v (.int .i64), .v .bool]), (2, .v .bool)]
noncomputable def ns : NS := nsOf Go.Proofs.Tryd.f33 lin lout
noncomputable def D (n : Nat) : FuncId → Nat → Option Den := lookD []
theorem hD (n : Nat) : DenOk Go.Proofs.Tryd.prog Ty.gl (D n) := lookD_ok trivial
def rs : List ResultVar := [.tmp 2]
noncomputable def f (n : Nat) (x : CSs.den lin) : Option (CSs.den lout) := run Ty (D n) (mkH [] [] [] [] []) ns (cd Go.Proofs.Tryd.f33) (canon lin x) (retK Ty rs (Go.Func.ntmps Go.Proofs.Tryd.f33) lout id)
@[reducible] noncomputable def den (n : Nat) : Den := ⟨lin, lout, [2], [some (.inr 0)], CSs.den lout, f n, id⟩
theorem sat (n : Nat) : Sat Go.Proofs.Tryd.prog Ty.gl 33 (den n) := sat_is hTy (hD n) Go.Proofs.Tryd.func33 rfl rfl (den n) [] [] [] [] [] (by kernel_rfl) trivial trivial (rs := rs) (by kernel_rfl) (by kernel_rfl) (by kernel_rfl) (by kernel_rfl) (by kernel_rfl) (fun _ => rfl) (fun _ _ => rfl) id (fun _ => rfl) (by intro x; kernel_rfl)
end little_Reader_Short
namespace central_Parse_1
@[reducible] def lin : List (Nat × CS) := [(0, .v (.int .i64)), (1, .v (.int .i64)), (2, .box 31 [.v (.list (.int .u8))])]
@[reducible] def lout : List (Nat × CS) := [(2, .box 31 [.v (.list (.int .u8))]), (5, .v (.int .u64))]
noncomputable def ns : NS := nsOf Go.Proofs.Tryd.f34 lin lout
noncomputable def D (n : Nat) : FuncId → Nat → Option Den := lookD [((35, 0), little_Get.den n)]
theorem hD (n : Nat) : DenOk Go.Proofs.Tryd.prog Ty.gl (D n) := lookD_ok ⟨little_Get.sat n, trivial⟩
def rs : List ResultVar := [.tmp 5]
noncomputable def f (n : Nat) (x : CSs.den lin) : Option (CSs.den lout) := run Ty (D n) (mkH [] [] [] [] []) ns (cd Go.Proofs.Tryd.f34) (canon lin x) (retK Ty rs (Go.Func.ntmps Go.Proofs.Tryd.f34) lout id)
@[reducible] noncomputable def den (n : Nat) : Den := ⟨lin, lout, [5], [some (.inr 0)], CSs.den lout, f n, id⟩
theorem sat (n : Nat) : Sat Go.Proofs.Tryd.prog Ty.gl 34 (den n) := sat_is hTy (hD n) Go.Proofs.Tryd.func34 rfl rfl (den n) [] [] [] [] [] (by kernel_rfl) trivial trivial (rs := rs) (by kernel_rfl) (by kernel_rfl) (by kernel_rfl) (by kernel_rfl) (by kernel_rfl) (fun _ => rfl) (fun _ _ => rfl) id (fun _ => rfl) (by intro x; kernel_rfl)
end central_Parse_1
namespace stamp_Unpack
@[reducible] def lin : List (Nat × CS) := [(0, .v (.int .u16)), (1, .v (.int .u16))]
@[reducible] def lout : List (Nat × CS) := [(38, .v (.pair (.int .i64) (.pair (.int .i64) (.pair (.int .i64) (.pair (.int .i64) (.pair (.int .i64) (.pair (.int .i64) .unit))))))), (5, .v (.int .i64))]
noncomputable def ns : NS := nsOf Go.Proofs.Tryd.f37 lin lout
noncomputable def D (n : Nat) : FuncId → Nat → Option Den := lookD [((45, 0), stamp_Check.den n)]
theorem hD (n : Nat) : DenOk Go.Proofs.Tryd.prog Ty.gl (D n) := lookD_ok ⟨stamp_Check.sat n, trivial⟩
def rs : List ResultVar := [.cell 4 23, .tmp 5]
noncomputable def f (n : Nat) (x : CSs.den lin) : Option (CSs.den lout) := run Ty (D n) (mkH [] [] [] [] []) ns (cd Go.Proofs.Tryd.f37) (canon lin x) (retK Ty rs (Go.Func.ntmps Go.Proofs.Tryd.f37) lout id)
@[reducible] noncomputable def den (n : Nat) : Den := ⟨lin, lout, [38, 5], [], CSs.den lout, f n, id⟩
theorem sat (n : Nat) : Sat Go.Proofs.Tryd.prog Ty.gl 37 (den n) := sat_is hTy (hD n) Go.Proofs.Tryd.func37 rfl rfl (den n) [] [] [] [] [] (by kernel_rfl) trivial trivial (rs := rs) (by kernel_rfl) (by kernel_rfl) (by kernel_rfl) (by kernel_rfl) (by kernel_rfl) (fun _ => rfl) (fun _ _ => rfl) id (fun _ => rfl) (by intro x; kernel_rfl)
end stamp_Unpack
namespace central_told
@[reducible] def lin : List (Nat × CS) := [(0, .box 29 [.v (.int .i64), .v (.int .i64), .v (.int .i64), .v (.int .i64), .v (.int .i64), .v (.int .i64), .v (.int .i64), .v (.int .u32), .v (.int .u64), .v (.int .u64), .v .str, .v (.int .u32), .v (.int .u64)]), (1, .v (.list (.int .u8)))]
@[reducible] def lout : List (Nat × CS) := [(0, .box 29 [.v (.int .i64), .v (.int .i64), .v (.int .i64), .v (.int .i64), .v (.int .i64), .v (.int .i64), .v (.int .i64), .v (.int .u32), .v (.int .u64), .v (.int .u64), .v .str, .v (.int .u32), .v (.int .u64)]), (4, .v .bool)]
noncomputable def ns : NS := nsOf Go.Proofs.Tryd.f38 lin lout
noncomputable def D (n : Nat) : FuncId → Nat → Option Den := lookD [((30, 0), little_Read.den n), ((31, 0), little_Reader_Num.den n), ((47, 0), central_fields.den n), ((33, 0), little_Reader_Short.den n), ((36, 0), little_Reader_Left.den n)]
theorem hD (n : Nat) : DenOk Go.Proofs.Tryd.prog Ty.gl (D n) := lookD_ok ⟨little_Read.sat n, little_Reader_Num.sat n, central_fields.sat n, little_Reader_Short.sat n, little_Reader_Left.sat n, trivial⟩
def rs : List ResultVar := [.tmp 4]
noncomputable def f (n : Nat) (x : CSs.den lin) : Option (CSs.den lout) := run Ty (D n) (mkH [] [(7, ⟨[], [(.mem, 0), (.mem, 1), (.mem, 2), (.mem, 3), (.mem, 4), (.mem, 5), (.mem, 6), (.mem, 7), (.mem, 8), (.mem, 9), (.mem, 10), (.mem, 13), (.step, 11), (.cur, 12)]⟩)] [(0, 5)] [] [(1000004, [(.normal, [(0, .box 29 [.v (.int .i64), .v (.int .i64), .v (.int .i64), .v (.int .i64), .v (.int .i64), .v (.int .i64), .v (.int .i64), .v (.int .u32), .v (.int .u64), .v (.int .u64), .v .str, .v (.int .u32), .v (.int .u64)]), (5, .box 102 [.v (.list (.int .u8)), .v (.int .i64), .v .bool]), (26, .v .bool)])]), (1000015, [(.normal, [(0, .box 29 [.v (.int .i64), .v (.int .i64), .v (.int .i64), .v (.int .i64), .v (.int .i64), .v (.int .i64), .v (.int .i64), .v (.int .u32), .v (.int .u64), .v (.int .u64), .v .str, .v (.int .u32), .v (.int .u64)]), (4, .v .bool)])])]) ns (cd Go.Proofs.Tryd.f38) (canon lin x) (retK Ty rs (Go.Func.ntmps Go.Proofs.Tryd.f38) lout id)
@[reducible] noncomputable def den (n : Nat) : Den := ⟨lin, lout, [4], [some (.inr 0)], CSs.den lout, f n, id⟩
theorem sat (n : Nat) : Sat Go.Proofs.Tryd.prog Ty.gl 38 (den n) := sat_is hTy (hD n) Go.Proofs.Tryd.func38 rfl rfl (den n) [] [(7, ⟨[], [(.mem, 0), (.mem, 1), (.mem, 2), (.mem, 3), (.mem, 4), (.mem, 5), (.mem, 6), (.mem, 7), (.mem, 8), (.mem, 9), (.mem, 10), (.mem, 13), (.step, 11), (.cur, 12)]⟩)] [(0, 5)] [] [(1000004, [(.normal, [(0, .box 29 [.v (.int .i64), .v (.int .i64), .v (.int .i64), .v (.int .i64), .v (.int .i64), .v (.int .i64), .v (.int .i64), .v (.int .u32), .v (.int .u64), .v (.int .u64), .v .str, .v (.int .u32), .v (.int .u64)]), (5, .box 102 [.v (.list (.int .u8)), .v (.int .i64), .v .bool]), (26, .v .bool)])]), (1000015, [(.normal, [(0, .box 29 [.v (.int .i64), .v (.int .i64), .v (.int .i64), .v (.int .i64), .v (.int .i64), .v (.int .i64), .v (.int .i64), .v (.int .u32), .v (.int .u64), .v (.int .u64), .v .str, .v (.int .u32), .v (.int .u64)]), (4, .v .bool)])])] (by kernel_rfl) trivial trivial (rs := rs) (by kernel_rfl) (by kernel_rfl) (by kernel_rfl) (by kernel_rfl) (by kernel_rfl) (fun _ => rfl) (fun _ _ => rfl) id (fun _ => rfl) (by intro x; kernel_rfl)
end central_told
namespace little_Reader_At
@[reducible] def lin : List (Nat × CS) := [(0, .box 102 [.v (.list (.int .u8)), .v (.int .i64), .v .bool])]
@[reducible] def lout : List (Nat × CS) := [(0, .box 102 [.v (.list (.int .u8)), .v (.int .i64), .v .bool]), (2, .v (.int .i64))]
noncomputable def ns : NS := nsOf Go.Proofs.Tryd.f40 lin lout
noncomputable def D (n : Nat) : FuncId → Nat → Option Den := lookD []
theorem hD (n : Nat) : DenOk Go.Proofs.Tryd.prog Ty.gl (D n) := lookD_ok trivial
def rs : List ResultVar := [.tmp 2]
noncomputable def f (n : Nat) (x : CSs.den lin) : Option (CSs.den lout) := run Ty (D n) (mkH [] [] [] [] []) ns (cd Go.Proofs.Tryd.f40) (canon lin x) (retK Ty rs (Go.Func.ntmps Go.Proofs.Tryd.f40) lout id)
@[reducible] noncomputable def den (n : Nat) : Den := ⟨lin, lout, [2], [some (.inr 0)], CSs.den lout, f n, id⟩
theorem sat (n : Nat) : Sat Go.Proofs.Tryd.prog Ty.gl 40 (den n) := sat_is hTy (hD n) Go.Proofs.Tryd.func40 rfl rfl (den n) [] [] [] [] [] (by kernel_rfl) trivial trivial (rs := rs) (by kernel_rfl) (by kernel_rfl) (by kernel_rfl) (by kernel_rfl) (by kernel_rfl) (fun _ => rfl) (fun _ _ => rfl) id (fun _ => rfl) (by intro x; kernel_rfl)
end little_Reader_At
namespace slices_Equal_byte_byte
@[reducible] def lin : List (Nat × CS) := [(0, .v (.list (.int .u8))), (1, .v (.list (.int .u8)))]
@[reducible] def lout : List (Nat × CS) := [(4, .v .bool)]
noncomputable def ns : NS := nsOf Go.Proofs.Tryd.f56 lin lout
noncomputable def D (n : Nat) : FuncId → Nat → Option Den := lookD []
theorem hD (n : Nat) : DenOk Go.Proofs.Tryd.prog Ty.gl (D n) := lookD_ok trivial
@[reducible] def L0 : List (Nat × CS) := [(0, .v (.list (.int .u8))), (1, .v (.list (.int .u8))), (12, .v (.int .i64)), (13, .v (.int .i64))]
@[reducible] def ws0 : List (Out × List (Nat × CS)) := [(.ret, [(4, .v .bool)]), (.normal, [])]
noncomputable def l0 (n m : Nat) : Nat → CSs.den L0 → Option (wayDen ws0)
  | 0, _ => none
  | k + 1, x => run Ty (D n) (mkH [] [(6, ⟨[], [(.mem, 0), (.mem, 1), (.mem, 2), (.mem, 3), (.mem, 4), (.mem, 5), (.mem, 6), (.mem, 7), (.mem, 8)]⟩)] [] [] []) ns (lb Go.Proofs.Tryd.f56 0) (canon L0 x) (loopK 0 L0 (l0 n m k))
theorem l0_ok (n m : Nat) : HintOk Go.Proofs.Tryd.prog Ty.gl ns (.block 0 (.loop (lb Go.Proofs.Tryd.f56 0))) ⟨L0, ws0, l0 n m m⟩ :=
  loop_is hTy (hD n) [] [(6, ⟨[], [(.mem, 0), (.mem, 1), (.mem, 2), (.mem, 3), (.mem, 4), (.mem, 5), (.mem, 6), (.mem, 7), (.mem, 8)]⟩)] [] [] [] (by kernel_rfl) trivial trivial L0 ws0 (fun _ => rfl) (ways_cons (fun _ => rfl) (ways_cons (fun _ => rfl) ways_nil)) (l0 n m) (fun _ => rfl) (fun _ _ => rfl) m
def rs : List ResultVar := [.tmp 4]
noncomputable def f (n : Nat) (x : CSs.den lin) : Option (CSs.den lout) := run Ty (D n) (mkH [(0, ⟨L0, ws0, l0 n n n⟩)] [(6, ⟨[], [(.mem, 0), (.mem, 1), (.mem, 2), (.mem, 3), (.mem, 4), (.mem, 5), (.mem, 6), (.mem, 7), (.mem, 8)]⟩)] [] [] []) ns (cd Go.Proofs.Tryd.f56) (canon lin x) (retK Ty rs (Go.Func.ntmps Go.Proofs.Tryd.f56) lout id)
@[reducible] noncomputable def den (n : Nat) : Den := ⟨lin, lout, [4], [], CSs.den lout, f n, id⟩
theorem sat (n : Nat) : Sat Go.Proofs.Tryd.prog Ty.gl 56 (den n) := sat_is hTy (hD n) Go.Proofs.Tryd.func56 rfl rfl (den n) [(0, ⟨L0, ws0, l0 n n n⟩)] [(6, ⟨[], [(.mem, 0), (.mem, 1), (.mem, 2), (.mem, 3), (.mem, 4), (.mem, 5), (.mem, 6), (.mem, 7), (.mem, 8)]⟩)] [] [] [] (by kernel_rfl) ⟨⟨_, by kernel_rfl, l0_ok n n⟩, trivial⟩ trivial (rs := rs) (by kernel_rfl) (by kernel_rfl) (by kernel_rfl) (by kernel_rfl) (by kernel_rfl) (fun _ => rfl) (fun _ _ => rfl) id (fun _ => rfl) (by intro x; kernel_rfl)
end slices_Equal_byte_byte
end Go.Proofs.YtcnegcjjeakmmaaDoor.Vm
