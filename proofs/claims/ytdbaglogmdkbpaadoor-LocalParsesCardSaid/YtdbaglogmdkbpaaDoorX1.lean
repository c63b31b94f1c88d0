/- Functions of the Go program as Lean functions, by the machine. Written by a program. -/
import Derived.Test.YtdbaglogmdkbpaaDoorX0
namespace Go.Proofs.YtdbaglogmdkbpaaDoor.Vm
open Go Go.RowKit
set_option linter.unusedVariables false
set_option linter.unusedSimpArgs false
set_option maxRecDepth 100000
namespace ref17_Right
@[reducible] def lin : List (Nat × CS) := [(0, .v (.pair (.int .i64) (.pair (.int .i64) (.pair (.int .i64) (.pair (.int .i64) (.pair (.int .i64) (.pair (.int .i64) .unit)))))))]
@[reducible] def lout : List (Nat × CS) := [(2, .v .bool)]
noncomputable def ns : NS := nsOf Go.Proofs.Tryd.f41 lin lout
noncomputable def D (n : Nat) : FuncId → Nat → Option Den := lookD [((55, 0), ref17_Days.den n)]
theorem hD (n : Nat) : DenOk Go.Proofs.Tryd.prog Ty.gl (D n) := lookD_ok ⟨ref17_Days.sat n, trivial⟩
def rs : List ResultVar := [.tmp 2]
noncomputable def f (n : Nat) (x : CSs.den lin) : Option (CSs.den lout) := run Ty (D n) (mkH [] [(1, ⟨[1], [(.mem, 0), (.mem, 1), (.mem, 2), (.mem, 3), (.mem, 4), (.mem, 5), (.mem, 6), (.mem, 7), (.mem, 8), (.mem, 9), (.mem, 10), (.mem, 11), (.mem, 12), (.mem, 13), (.mem, 14), (.mem, 15), (.mem, 16), (.mem, 17), (.mem, 18), (.mem, 19), (.step, 20), (.cur, 21), (.cur, 22)]⟩)] [] []) ns (cd Go.Proofs.Tryd.f41) (canon lin x) (retK Ty rs (Go.Func.ntmps Go.Proofs.Tryd.f41) lout id)
@[reducible] noncomputable def den (n : Nat) : Den := ⟨lin, lout, [2], [], CSs.den lout, f n, id⟩
theorem sat (n : Nat) : Sat Go.Proofs.Tryd.prog Ty.gl 41 (den n) := sat_is hTy (hD n) Go.Proofs.Tryd.func41 rfl rfl (den n) [] [(1, ⟨[1], [(.mem, 0), (.mem, 1), (.mem, 2), (.mem, 3), (.mem, 4), (.mem, 5), (.mem, 6), (.mem, 7), (.mem, 8), (.mem, 9), (.mem, 10), (.mem, 11), (.mem, 12), (.mem, 13), (.mem, 14), (.mem, 15), (.mem, 16), (.mem, 17), (.mem, 18), (.mem, 19), (.step, 20), (.cur, 21), (.cur, 22)]⟩)] [] [] (by kernel_rfl) trivial trivial (rs := rs) (by kernel_rfl) (by kernel_rfl) (by kernel_rfl) (by kernel_rfl) (by kernel_rfl) (fun _ => rfl) (fun _ _ => rfl) id (fun _ => rfl) (by intro x; kernel_rfl)
end ref17_Right
namespace ref17_Unpack
@[reducible] def lin : List (Nat × CS) := [(0, .v (.int .u16)), (1, .v (.int .u16))]
@[reducible] def lout : List (Nat × CS) := [(41, .v (.pair (.int .i64) (.pair (.int .i64) (.pair (.int .i64) (.pair (.int .i64) (.pair (.int .i64) (.pair (.int .i64) .unit))))))), (5, .v .bool)]
noncomputable def ns : NS := nsOf Go.Proofs.Tryd.f35 lin lout
noncomputable def D (n : Nat) : FuncId → Nat → Option Den := lookD [((41, 0), ref17_Right.den n)]
theorem hD (n : Nat) : DenOk Go.Proofs.Tryd.prog Ty.gl (D n) := lookD_ok ⟨ref17_Right.sat n, trivial⟩
def rs : List ResultVar := [.cell 4 23, .tmp 5]
noncomputable def f (n : Nat) (x : CSs.den lin) : Option (CSs.den lout) := run Ty (D n) (mkH [] [] [] []) ns (cd Go.Proofs.Tryd.f35) (canon lin x) (retK Ty rs (Go.Func.ntmps Go.Proofs.Tryd.f35) lout id)
@[reducible] noncomputable def den (n : Nat) : Den := ⟨lin, lout, [41, 5], [], CSs.den lout, f n, id⟩
theorem sat (n : Nat) : Sat Go.Proofs.Tryd.prog Ty.gl 35 (den n) := sat_is hTy (hD n) Go.Proofs.Tryd.func35 rfl rfl (den n) [] [] [] [] (by kernel_rfl) trivial trivial (rs := rs) (by kernel_rfl) (by kernel_rfl) (by kernel_rfl) (by kernel_rfl) (by kernel_rfl) (fun _ => rfl) (fun _ _ => rfl) id (fun _ => rfl) (by intro x; kernel_rfl)
end ref17_Unpack
namespace ref17_Pack
@[reducible] def lin : List (Nat × CS) := [(0, .v (.pair (.int .i64) (.pair (.int .i64) (.pair (.int .i64) (.pair (.int .i64) (.pair (.int .i64) (.pair (.int .i64) .unit)))))))]
@[reducible] def lout : List (Nat × CS) := [(2, .v (.int .i64)), (3, .v (.int .i64))]
noncomputable def ns : NS := nsOf Go.Proofs.Tryd.f42 lin lout
noncomputable def D (n : Nat) : FuncId → Nat → Option Den := lookD []
theorem hD (n : Nat) : DenOk Go.Proofs.Tryd.prog Ty.gl (D n) := lookD_ok trivial
def rs : List ResultVar := [.tmp 2, .tmp 3]
noncomputable def f (n : Nat) (x : CSs.den lin) : Option (CSs.den lout) := run Ty (D n) (mkH [] [(1, ⟨[1], [(.mem, 0), (.mem, 1), (.mem, 2), (.mem, 3), (.mem, 4), (.mem, 5), (.mem, 6), (.mem, 7), (.mem, 8), (.mem, 9), (.mem, 10), (.mem, 11), (.mem, 12), (.mem, 13), (.mem, 14), (.mem, 15), (.mem, 16), (.mem, 17), (.mem, 18), (.mem, 19), (.mem, 20), (.mem, 21), (.mem, 22), (.mem, 23)]⟩)] [] []) ns (cd Go.Proofs.Tryd.f42) (canon lin x) (retK Ty rs (Go.Func.ntmps Go.Proofs.Tryd.f42) lout id)
@[reducible] noncomputable def den (n : Nat) : Den := ⟨lin, lout, [2, 3], [], CSs.den lout, f n, id⟩
theorem sat (n : Nat) : Sat Go.Proofs.Tryd.prog Ty.gl 42 (den n) := sat_is hTy (hD n) Go.Proofs.Tryd.func42 rfl rfl (den n) [] [(1, ⟨[1], [(.mem, 0), (.mem, 1), (.mem, 2), (.mem, 3), (.mem, 4), (.mem, 5), (.mem, 6), (.mem, 7), (.mem, 8), (.mem, 9), (.mem, 10), (.mem, 11), (.mem, 12), (.mem, 13), (.mem, 14), (.mem, 15), (.mem, 16), (.mem, 17), (.mem, 18), (.mem, 19), (.mem, 20), (.mem, 21), (.mem, 22), (.mem, 23)]⟩)] [] [] (by kernel_rfl) trivial trivial (rs := rs) (by kernel_rfl) (by kernel_rfl) (by kernel_rfl) (by kernel_rfl) (by kernel_rfl) (fun _ => rfl) (fun _ _ => rfl) id (fun _ => rfl) (by intro x; kernel_rfl)
end ref17_Pack
namespace ref18_Great
@[reducible] def lin : List (Nat × CS) := [(0, .v (.pair (.int .i64) (.pair (.pair (.int .i64) (.pair (.int .i64) (.pair (.int .i64) (.pair (.int .i64) (.pair (.int .i64) (.pair (.int .i64) .unit)))))) (.pair (.int .u32) (.pair (.int .u64) (.pair (.int .u64) (.pair .str .unit)))))))]
@[reducible] def lout : List (Nat × CS) := [(2, .v .bool)]
noncomputable def ns : NS := nsOf Go.Proofs.Tryd.f11 lin lout
noncomputable def D (n : Nat) : FuncId → Nat → Option Den := lookD []
theorem hD (n : Nat) : DenOk Go.Proofs.Tryd.prog Ty.gl (D n) := lookD_ok trivial
def rs : List ResultVar := [.tmp 2]
noncomputable def f (n : Nat) (x : CSs.den lin) : Option (CSs.den lout) := run Ty (D n) (mkH [] [] [] []) ns (cd Go.Proofs.Tryd.f11) (canon lin x) (retK Ty rs (Go.Func.ntmps Go.Proofs.Tryd.f11) lout id)
@[reducible] noncomputable def den (n : Nat) : Den := ⟨lin, lout, [2], [], CSs.den lout, f n, id⟩
theorem sat (n : Nat) : Sat Go.Proofs.Tryd.prog Ty.gl 11 (den n) := sat_is hTy (hD n) Go.Proofs.Tryd.func11 rfl rfl (den n) [] [] [] [] (by kernel_rfl) trivial trivial (rs := rs) (by kernel_rfl) (by kernel_rfl) (by kernel_rfl) (by kernel_rfl) (by kernel_rfl) (fun _ => rfl) (fun _ _ => rfl) id (fun _ => rfl) (by intro x; kernel_rfl)
end ref18_Great
namespace ref07_Put
@[reducible] def lin : List (Nat × CS) := [(0, .v (.int .u64)), (1, .v (.int .i64))]
@[reducible] def lout : List (Nat × CS) := [(4, .own 5 (.int .u8))]
noncomputable def ns : NS := nsOf Go.Proofs.Tryd.f56 lin lout
noncomputable def D (n : Nat) : FuncId → Nat → Option Den := lookD []
theorem hD (n : Nat) : DenOk Go.Proofs.Tryd.prog Ty.gl (D n) := lookD_ok trivial
@[reducible] def L0 : List (Nat × CS) := [(0, .v (.int .u64)), (1, .v (.int .i64)), (5, .own 5 (.int .u8)), (6, .v (.int .i64))]
@[reducible] def ws0 : List (Out × List (Nat × CS)) := [(.normal, [(5, .own 5 (.int .u8))])]
noncomputable def l0 (n m : Nat) : Nat → CSs.den L0 → Option (wayDen ws0)
  | 0, _ => none
  | k + 1, x => run Ty (D n) (mkH [] [] [] []) ns (lb Go.Proofs.Tryd.f56 0) (canon L0 x) (loopK 0 L0 (l0 n m k))
theorem l0_ok (n m : Nat) : HintOk Go.Proofs.Tryd.prog Ty.gl ns (.block 0 (.loop (lb Go.Proofs.Tryd.f56 0))) ⟨L0, ws0, l0 n m m⟩ :=
  loop_is hTy (hD n) [] [] [] [] (by kernel_rfl) trivial trivial L0 ws0 (fun _ => rfl) (ways_cons (fun _ => rfl) ways_nil) (l0 n m) (fun _ => rfl) (fun _ _ => rfl) m
def rs : List ResultVar := [.tmp 4]
noncomputable def f (n : Nat) (x : CSs.den lin) : Option (CSs.den lout) := run Ty (D n) (mkH [(0, ⟨L0, ws0, l0 n n n⟩)] [] [] []) ns (cd Go.Proofs.Tryd.f56) (canon lin x) (retK Ty rs (Go.Func.ntmps Go.Proofs.Tryd.f56) lout id)
@[reducible] noncomputable def den (n : Nat) : Den := ⟨lin, lout, [4], [none], CSs.den lout, f n, id⟩
theorem sat (n : Nat) : Sat Go.Proofs.Tryd.prog Ty.gl 56 (den n) := sat_is hTy (hD n) Go.Proofs.Tryd.func56 rfl rfl (den n) [(0, ⟨L0, ws0, l0 n n n⟩)] [] [] [] (by kernel_rfl) ⟨⟨_, by kernel_rfl, l0_ok n n⟩, trivial⟩ trivial (rs := rs) (by kernel_rfl) (by kernel_rfl) (by kernel_rfl) (by kernel_rfl) (by kernel_rfl) (fun _ => rfl) (fun _ _ => rfl) id (fun _ => rfl) (by intro x; kernel_rfl)
end ref07_Put
namespace ref18_Numbers
@[reducible] def lin : List (Nat × CS) := [(0, .v (.list (.int .u64))), (1, .v (.list (.int .i64)))]
@[reducible] def lout : List (Nat × CS) := [(4, .own 5 (.int .u8))]
noncomputable def ns : NS := nsOf Go.Proofs.Tryd.f43 lin lout
noncomputable def D (n : Nat) : FuncId → Nat → Option Den := lookD [((56, 0), ref07_Put.den n)]
theorem hD (n : Nat) : DenOk Go.Proofs.Tryd.prog Ty.gl (D n) := lookD_ok ⟨ref07_Put.sat n, trivial⟩
@[reducible] def L0 : List (Nat × CS) := [(0, .v (.list (.int .u64))), (1, .v (.list (.int .i64))), (5, .own 5 (.int .u8)), (6, .v (.int .i64))]
@[reducible] def ws0 : List (Out × List (Nat × CS)) := [(.normal, [(5, .own 5 (.int .u8))])]
noncomputable def l0 (n m : Nat) : Nat → CSs.den L0 → Option (wayDen ws0)
  | 0, _ => none
  | k + 1, x => run Ty (D n) (mkH [] [(5, ⟨[], [(.mem, 0), (.mem, 1), (.mem, 2), (.mem, 3), (.mem, 4), (.mem, 5), (.mem, 6), (.mem, 7), (.mem, 8), (.step, 9), (.step, 10), (.cur, 11)]⟩)] [] []) ns (lb Go.Proofs.Tryd.f43 0) (canon L0 x) (loopK 0 L0 (l0 n m k))
theorem l0_ok (n m : Nat) : HintOk Go.Proofs.Tryd.prog Ty.gl ns (.block 0 (.loop (lb Go.Proofs.Tryd.f43 0))) ⟨L0, ws0, l0 n m m⟩ :=
  loop_is hTy (hD n) [] [(5, ⟨[], [(.mem, 0), (.mem, 1), (.mem, 2), (.mem, 3), (.mem, 4), (.mem, 5), (.mem, 6), (.mem, 7), (.mem, 8), (.step, 9), (.step, 10), (.cur, 11)]⟩)] [] [] (by kernel_rfl) trivial trivial L0 ws0 (fun _ => rfl) (ways_cons (fun _ => rfl) ways_nil) (l0 n m) (fun _ => rfl) (fun _ _ => rfl) m
def rs : List ResultVar := [.tmp 4]
noncomputable def f (n : Nat) (x : CSs.den lin) : Option (CSs.den lout) := run Ty (D n) (mkH [(0, ⟨L0, ws0, l0 n n n⟩)] [(5, ⟨[], [(.mem, 0), (.mem, 1), (.mem, 2), (.mem, 3), (.mem, 4), (.mem, 5), (.mem, 6), (.mem, 7), (.mem, 8), (.step, 9), (.step, 10), (.cur, 11)]⟩)] [] []) ns (cd Go.Proofs.Tryd.f43) (canon lin x) (retK Ty rs (Go.Func.ntmps Go.Proofs.Tryd.f43) lout id)
@[reducible] noncomputable def den (n : Nat) : Den := ⟨lin, lout, [4], [none], CSs.den lout, f n, id⟩
theorem sat (n : Nat) : Sat Go.Proofs.Tryd.prog Ty.gl 43 (den n) := sat_is hTy (hD n) Go.Proofs.Tryd.func43 rfl rfl (den n) [(0, ⟨L0, ws0, l0 n n n⟩)] [(5, ⟨[], [(.mem, 0), (.mem, 1), (.mem, 2), (.mem, 3), (.mem, 4), (.mem, 5), (.mem, 6), (.mem, 7), (.mem, 8), (.step, 9), (.step, 10), (.cur, 11)]⟩)] [] [] (by kernel_rfl) ⟨⟨_, by kernel_rfl, l0_ok n n⟩, trivial⟩ trivial (rs := rs) (by kernel_rfl) (by kernel_rfl) (by kernel_rfl) (by kernel_rfl) (by kernel_rfl) (fun _ => rfl) (fun _ _ => rfl) id (fun _ => rfl) (by intro x; kernel_rfl)
end ref18_Numbers
namespace ref01_Join
@[reducible] def lin : List (Nat × CS) := [(0, .v (.list (.list (.int .u8))))]
@[reducible] def lout : List (Nat × CS) := [(2, .own 5 (.int .u8))]
noncomputable def ns : NS := nsOf Go.Proofs.Tryd.f44 lin lout
noncomputable def D (n : Nat) : FuncId → Nat → Option Den := lookD []
theorem hD (n : Nat) : DenOk Go.Proofs.Tryd.prog Ty.gl (D n) := lookD_ok trivial
@[reducible] def L0 : List (Nat × CS) := [(0, .v (.list (.list (.int .u8)))), (3, .own 5 (.int .u8)), (4, .v (.int .i64))]
@[reducible] def ws0 : List (Out × List (Nat × CS)) := [(.normal, [(3, .own 5 (.int .u8))])]
noncomputable def l0 (n m : Nat) : Nat → CSs.den L0 → Option (wayDen ws0)
  | 0, _ => none
  | k + 1, x => run Ty (D n) (mkH [] [] [] []) ns (lb Go.Proofs.Tryd.f44 0) (canon L0 x) (loopK 0 L0 (l0 n m k))
theorem l0_ok (n m : Nat) : HintOk Go.Proofs.Tryd.prog Ty.gl ns (.block 0 (.loop (lb Go.Proofs.Tryd.f44 0))) ⟨L0, ws0, l0 n m m⟩ :=
  loop_is hTy (hD n) [] [] [] [] (by kernel_rfl) trivial trivial L0 ws0 (fun _ => rfl) (ways_cons (fun _ => rfl) ways_nil) (l0 n m) (fun _ => rfl) (fun _ _ => rfl) m
def rs : List ResultVar := [.tmp 2]
noncomputable def f (n : Nat) (x : CSs.den lin) : Option (CSs.den lout) := run Ty (D n) (mkH [(0, ⟨L0, ws0, l0 n n n⟩)] [] [] []) ns (cd Go.Proofs.Tryd.f44) (canon lin x) (retK Ty rs (Go.Func.ntmps Go.Proofs.Tryd.f44) lout id)
@[reducible] noncomputable def den (n : Nat) : Den := ⟨lin, lout, [2], [none], CSs.den lout, f n, id⟩
theorem sat (n : Nat) : Sat Go.Proofs.Tryd.prog Ty.gl 44 (den n) := sat_is hTy (hD n) Go.Proofs.Tryd.func44 rfl rfl (den n) [(0, ⟨L0, ws0, l0 n n n⟩)] [] [] [] (by kernel_rfl) ⟨⟨_, by kernel_rfl, l0_ok n n⟩, trivial⟩ trivial (rs := rs) (by kernel_rfl) (by kernel_rfl) (by kernel_rfl) (by kernel_rfl) (by kernel_rfl) (fun _ => rfl) (fun _ _ => rfl) id (fun _ => rfl) (by intro x; kernel_rfl)
end ref01_Join
namespace ref18_bytes
@[reducible] def lin : List (Nat × CS) := [(0, .v (.pair (.int .i64) (.pair (.pair (.int .i64) (.pair (.int .i64) (.pair (.int .i64) (.pair (.int .i64) (.pair (.int .i64) (.pair (.int .i64) .unit)))))) (.pair (.int .u32) (.pair (.int .u64) (.pair (.int .u64) (.pair .str .unit)))))))]
@[reducible] def lout : List (Nat × CS) := [(2, .own 5 (.int .u8))]
noncomputable def ns : NS := nsOf Go.Proofs.Tryd.f24 lin lout
noncomputable def D (n : Nat) : FuncId → Nat → Option Den := lookD [((42, 0), ref17_Pack.den n), ((11, 0), ref18_Great.den n), ((43, 0), ref18_Numbers.den n), ((44, 0), ref01_Join.den n)]
theorem hD (n : Nat) : DenOk Go.Proofs.Tryd.prog Ty.gl (D n) := lookD_ok ⟨ref17_Pack.sat n, ref18_Great.sat n, ref18_Numbers.sat n, ref01_Join.sat n, trivial⟩
def rs : List ResultVar := [.tmp 2]
noncomputable def f (n : Nat) (x : CSs.den lin) : Option (CSs.den lout) := run Ty (D n) (mkH [] [(10, ⟨[1], [(.mem, 0), (.mem, 3), (.mem, 4), (.mem, 6), (.late, 5), (.step, 1), (.step, 2), (.sync, 0), (.step, 7), (.step, 8), (.cur, 9)]⟩)] [] []) ns (cd Go.Proofs.Tryd.f24) (canon lin x) (retK Ty rs (Go.Func.ntmps Go.Proofs.Tryd.f24) lout id)
@[reducible] noncomputable def den (n : Nat) : Den := ⟨lin, lout, [2], [none], CSs.den lout, f n, id⟩
theorem sat (n : Nat) : Sat Go.Proofs.Tryd.prog Ty.gl 24 (den n) := sat_is hTy (hD n) Go.Proofs.Tryd.func24 rfl rfl (den n) [] [(10, ⟨[1], [(.mem, 0), (.mem, 3), (.mem, 4), (.mem, 6), (.late, 5), (.step, 1), (.step, 2), (.sync, 0), (.step, 7), (.step, 8), (.cur, 9)]⟩)] [] [] (by kernel_rfl) trivial trivial (rs := rs) (by kernel_rfl) (by kernel_rfl) (by kernel_rfl) (by kernel_rfl) (by kernel_rfl) (fun _ => rfl) (fun _ _ => rfl) id (fun _ => rfl) (by intro x; kernel_rfl)
end ref18_bytes
namespace ref16_Rune
@[reducible] def lin : List (Nat × CS) := [(0, .v .str), (1, .v (.int .i64))]
@[reducible] def lout : List (Nat × CS) := [(4, .v (.int .i64)), (5, .v (.int .i64))]
noncomputable def ns : NS := nsOf Go.Proofs.Tryd.f48 lin lout
noncomputable def D (n : Nat) : FuncId → Nat → Option Den := lookD []
theorem hD (n : Nat) : DenOk Go.Proofs.Tryd.prog Ty.gl (D n) := lookD_ok trivial
@[reducible] def L0 : List (Nat × CS) := [(0, .v .str), (1, .v (.int .i64)), (7, .v (.int .i64)), (8, .v (.int .i64)), (9, .v (.int .i64)), (10, .v (.int .i64))]
@[reducible] def ws0 : List (Out × List (Nat × CS)) := [(.ret, [(4, .v (.int .i64)), (5, .v (.int .i64))]), (.normal, [(7, .v (.int .i64)), (8, .v (.int .i64)), (9, .v (.int .i64))])]
noncomputable def l0 (n m : Nat) : Nat → CSs.den L0 → Option (wayDen ws0)
  | 0, _ => none
  | k + 1, x => run Ty (D n) (mkH [] [] [] []) ns (lb Go.Proofs.Tryd.f48 0) (canon L0 x) (loopK 0 L0 (l0 n m k))
theorem l0_ok (n m : Nat) : HintOk Go.Proofs.Tryd.prog Ty.gl ns (.block 0 (.loop (lb Go.Proofs.Tryd.f48 0))) ⟨L0, ws0, l0 n m m⟩ :=
  loop_is hTy (hD n) [] [] [] [] (by kernel_rfl) trivial trivial L0 ws0 (fun _ => rfl) (ways_cons (fun _ => rfl) (ways_cons (fun _ => rfl) ways_nil)) (l0 n m) (fun _ => rfl) (fun _ _ => rfl) m
def rs : List ResultVar := [.tmp 4, .tmp 5]
noncomputable def f (n : Nat) (x : CSs.den lin) : Option (CSs.den lout) := run Ty (D n) (mkH [(0, ⟨L0, ws0, l0 n n n⟩)] [] [] []) ns (cd Go.Proofs.Tryd.f48) (canon lin x) (retK Ty rs (Go.Func.ntmps Go.Proofs.Tryd.f48) lout id)
@[reducible] noncomputable def den (n : Nat) : Den := ⟨lin, lout, [4, 5], [], CSs.den lout, f n, id⟩
theorem sat (n : Nat) : Sat Go.Proofs.Tryd.prog Ty.gl 48 (den n) := sat_is hTy (hD n) Go.Proofs.Tryd.func48 rfl rfl (den n) [(0, ⟨L0, ws0, l0 n n n⟩)] [] [] [] (by kernel_rfl) ⟨⟨_, by kernel_rfl, l0_ok n n⟩, trivial⟩ trivial (rs := rs) (by kernel_rfl) (by kernel_rfl) (by kernel_rfl) (by kernel_rfl) (by kernel_rfl) (fun _ => rfl) (fun _ _ => rfl) id (fun _ => rfl) (by intro x; kernel_rfl)
end ref16_Rune
namespace ref16_Parts
@[reducible] def lin : List (Nat × CS) := [(0, .v .str)]
@[reducible] def lout : List (Nat × CS) := [(2, .own 9 .str)]
noncomputable def ns : NS := nsOf Go.Proofs.Tryd.f49 lin lout
noncomputable def D (n : Nat) : FuncId → Nat → Option Den := lookD []
theorem hD (n : Nat) : DenOk Go.Proofs.Tryd.prog Ty.gl (D n) := lookD_ok trivial
@[reducible] def L0 : List (Nat × CS) := [(0, .v .str), (3, .own 9 .str), (4, .v (.int .i64)), (5, .v (.int .i64))]
@[reducible] def ws0 : List (Out × List (Nat × CS)) := [(.normal, [(3, .own 9 .str)])]
noncomputable def l0 (n m : Nat) : Nat → CSs.den L0 → Option (wayDen ws0)
  | 0, _ => none
  | k + 1, x => run Ty (D n) (mkH [] [] [] []) ns (lb Go.Proofs.Tryd.f49 0) (canon L0 x) (loopK 0 L0 (l0 n m k))
theorem l0_ok (n m : Nat) : HintOk Go.Proofs.Tryd.prog Ty.gl ns (.block 0 (.loop (lb Go.Proofs.Tryd.f49 0))) ⟨L0, ws0, l0 n m m⟩ :=
  loop_is hTy (hD n) [] [] [] [] (by kernel_rfl) trivial trivial L0 ws0 (fun _ => rfl) (ways_cons (fun _ => rfl) ways_nil) (l0 n m) (fun _ => rfl) (fun _ _ => rfl) m
def rs : List ResultVar := [.tmp 2]
noncomputable def f (n : Nat) (x : CSs.den lin) : Option (CSs.den lout) := run Ty (D n) (mkH [(0, ⟨L0, ws0, l0 n n n⟩)] [] [] []) ns (cd Go.Proofs.Tryd.f49) (canon lin x) (retK Ty rs (Go.Func.ntmps Go.Proofs.Tryd.f49) lout id)
@[reducible] noncomputable def den (n : Nat) : Den := ⟨lin, lout, [2], [none], CSs.den lout, f n, id⟩
theorem sat (n : Nat) : Sat Go.Proofs.Tryd.prog Ty.gl 49 (den n) := sat_is hTy (hD n) Go.Proofs.Tryd.func49 rfl rfl (den n) [(0, ⟨L0, ws0, l0 n n n⟩)] [] [] [] (by kernel_rfl) ⟨⟨_, by kernel_rfl, l0_ok n n⟩, trivial⟩ trivial (rs := rs) (by kernel_rfl) (by kernel_rfl) (by kernel_rfl) (by kernel_rfl) (by kernel_rfl) (fun _ => rfl) (fun _ _ => rfl) id (fun _ => rfl) (by intro x; kernel_rfl)
end ref16_Parts
namespace ref16_Check
@[reducible] def lin : List (Nat × CS) := [(0, .v .str)]
@[reducible] def lout : List (Nat × CS) := [(2, .v (.int .i64))]
noncomputable def ns : NS := nsOf Go.Proofs.Tryd.f36 lin lout
noncomputable def D (n : Nat) : FuncId → Nat → Option Den := lookD [((48, 0), ref16_Rune.den n), ((49, 0), ref16_Parts.den n)]
theorem hD (n : Nat) : DenOk Go.Proofs.Tryd.prog Ty.gl (D n) := lookD_ok ⟨ref16_Rune.sat n, ref16_Parts.sat n, trivial⟩
@[reducible] def L0 : List (Nat × CS) := [(0, .v .str), (3, .v (.int .i64))]
@[reducible] def ws0 : List (Out × List (Nat × CS)) := [(.ret, [(2, .v (.int .i64))]), (.normal, [(0, .v .str)])]
noncomputable def l0 (n m : Nat) : Nat → CSs.den L0 → Option (wayDen ws0)
  | 0, _ => none
  | k + 1, x => run Ty (D n) (mkH [] [] [] []) ns (lb Go.Proofs.Tryd.f36 0) (canon L0 x) (loopK 0 L0 (l0 n m k))
theorem l0_ok (n m : Nat) : HintOk Go.Proofs.Tryd.prog Ty.gl ns (.block 0 (.loop (lb Go.Proofs.Tryd.f36 0))) ⟨L0, ws0, l0 n m m⟩ :=
  loop_is hTy (hD n) [] [] [] [] (by kernel_rfl) trivial trivial L0 ws0 (fun _ => rfl) (ways_cons (fun _ => rfl) (ways_cons (fun _ => rfl) ways_nil)) (l0 n m) (fun _ => rfl) (fun _ _ => rfl) m
@[reducible] def L2 : List (Nat × CS) := [(6, .own 9 .str), (7, .v (.int .i64))]
@[reducible] def ws2 : List (Out × List (Nat × CS)) := [(.ret, [(2, .v (.int .i64))]), (.normal, [])]
noncomputable def l2 (n m : Nat) : Nat → CSs.den L2 → Option (wayDen ws2)
  | 0, _ => none
  | k + 1, x => run Ty (D n) (mkH [] [] [] []) ns (lb Go.Proofs.Tryd.f36 2) (canon L2 x) (loopK 2 L2 (l2 n m k))
theorem l2_ok (n m : Nat) : HintOk Go.Proofs.Tryd.prog Ty.gl ns (.block 2 (.loop (lb Go.Proofs.Tryd.f36 2))) ⟨L2, ws2, l2 n m m⟩ :=
  loop_is hTy (hD n) [] [] [] [] (by kernel_rfl) trivial trivial L2 ws2 (fun _ => rfl) (ways_cons (fun _ => rfl) (ways_cons (fun _ => rfl) ways_nil)) (l2 n m) (fun _ => rfl) (fun _ _ => rfl) m
def rs : List ResultVar := [.tmp 2]
noncomputable def f (n : Nat) (x : CSs.den lin) : Option (CSs.den lout) := run Ty (D n) (mkH [(0, ⟨L0, ws0, l0 n n n⟩), (2, ⟨L2, ws2, l2 n n n⟩)] [] [] []) ns (cd Go.Proofs.Tryd.f36) (canon lin x) (retK Ty rs (Go.Func.ntmps Go.Proofs.Tryd.f36) lout id)
@[reducible] noncomputable def den (n : Nat) : Den := ⟨lin, lout, [2], [], CSs.den lout, f n, id⟩
theorem sat (n : Nat) : Sat Go.Proofs.Tryd.prog Ty.gl 36 (den n) := sat_is hTy (hD n) Go.Proofs.Tryd.func36 rfl rfl (den n) [(0, ⟨L0, ws0, l0 n n n⟩), (2, ⟨L2, ws2, l2 n n n⟩)] [] [] [] (by kernel_rfl) ⟨⟨_, by kernel_rfl, l0_ok n n⟩, ⟨_, by kernel_rfl, l2_ok n n⟩, trivial⟩ trivial (rs := rs) (by kernel_rfl) (by kernel_rfl) (by kernel_rfl) (by kernel_rfl) (by kernel_rfl) (fun _ => rfl) (fun _ _ => rfl) id (fun _ => rfl) (by intro x; kernel_rfl)
end ref16_Check
namespace ref18_Parse
@[reducible] def lin : List (Nat × CS) := [(0, .v (.list (.int .u8)))]
@[reducible] def lout : List (Nat × CS) := [(149, .v (.pair (.int .i64) (.pair (.pair (.int .i64) (.pair (.int .i64) (.pair (.int .i64) (.pair (.int .i64) (.pair (.int .i64) (.pair (.int .i64) .unit)))))) (.pair (.int .u32) (.pair (.int .u64) (.pair (.int .u64) (.pair .str .unit))))))), (3, .v (.int .i64)), (4, .v (.int .i64))]
noncomputable def ns : NS := nsOf Go.Proofs.Tryd.f15 lin lout
noncomputable def D (n : Nat) : FuncId → Nat → Option Den := lookD [((34, 0), ref18_at.den n), ((35, 0), ref17_Unpack.den n), ((24, 0), ref18_bytes.den n), ((12, 0), ref01_Same.den n), ((36, 0), ref16_Check.den n)]
theorem hD (n : Nat) : DenOk Go.Proofs.Tryd.prog Ty.gl (D n) := lookD_ok ⟨ref18_at.sat n, ref17_Unpack.sat n, ref18_bytes.sat n, ref01_Same.sat n, ref16_Check.sat n, trivial⟩
@[reducible] def L0 : List (Nat × CS) := [(0, .v (.list (.int .u8))), (2, .box 35 [.v (.int .i64), .v (.int .i64), .v (.int .i64), .v (.int .i64), .v (.int .i64), .v (.int .i64), .v (.int .i64), .v (.int .u32), .v (.int .u64), .v (.int .u64), .v .str]), (5, .v (.int .i64)), (6, .v (.int .i64)), (7, .box 35 [.v (.int .i64), .v (.int .i64), .v (.int .i64), .v (.int .i64), .v (.int .i64), .v (.int .i64), .v (.int .i64), .v (.int .u32), .v (.int .u64), .v (.int .u64), .v .str]), (11, .v .bool), (12, .own 5 (.int .u8)), (13, .v (.int .i64))]
@[reducible] def ws0 : List (Out × List (Nat × CS)) := [(.normal, [(0, .v (.list (.int .u8))), (2, .box 35 [.v (.int .i64), .v (.int .i64), .v (.int .i64), .v (.int .i64), .v (.int .i64), .v (.int .i64), .v (.int .i64), .v (.int .u32), .v (.int .u64), .v (.int .u64), .v .str]), (5, .v (.int .i64)), (6, .v (.int .i64)), (7, .box 35 [.v (.int .i64), .v (.int .i64), .v (.int .i64), .v (.int .i64), .v (.int .i64), .v (.int .i64), .v (.int .i64), .v (.int .u32), .v (.int .u64), .v (.int .u64), .v .str]), (11, .v .bool), (12, .own 5 (.int .u8))])]
noncomputable def l0 (n m : Nat) : Nat → CSs.den L0 → Option (wayDen ws0)
  | 0, _ => none
  | k + 1, x => run Ty (D n) (mkH [] [] [] []) ns (lb Go.Proofs.Tryd.f15 0) (canon L0 x) (loopK 0 L0 (l0 n m k))
theorem l0_ok (n m : Nat) : HintOk Go.Proofs.Tryd.prog Ty.gl ns (.block 0 (.loop (lb Go.Proofs.Tryd.f15 0))) ⟨L0, ws0, l0 n m m⟩ :=
  loop_is hTy (hD n) [] [] [] [] (by kernel_rfl) trivial trivial L0 ws0 (fun _ => rfl) (ways_cons (fun _ => rfl) ways_nil) (l0 n m) (fun _ => rfl) (fun _ _ => rfl) m
def rs : List ResultVar := [.cell 2 35, .tmp 3, .tmp 4]
noncomputable def f (n : Nat) (x : CSs.den lin) : Option (CSs.den lout) := run Ty (D n) (mkH [(0, ⟨L0, ws0, l0 n n n⟩)] [(8, ⟨[], [(.mem, 0), (.mem, 3), (.mem, 6), (.mem, 8), (.mem, 10), (.mem, 11), (.mem, 12), (.mem, 13), (.mem, 14), (.late, 16), (.step, 1), (.cur, 2), (.step, 4), (.cur, 5), (.step, 7), (.step, 9), (.cur, 15), (.sync, 0), (.step, 17)]⟩)] [] []) ns (cd Go.Proofs.Tryd.f15) (canon lin x) (retK Ty rs (Go.Func.ntmps Go.Proofs.Tryd.f15) lout id)
@[reducible] noncomputable def den (n : Nat) : Den := ⟨lin, lout, [149, 3, 4], [], CSs.den lout, f n, id⟩
theorem sat (n : Nat) : Sat Go.Proofs.Tryd.prog Ty.gl 15 (den n) := sat_is hTy (hD n) Go.Proofs.Tryd.func15 rfl rfl (den n) [(0, ⟨L0, ws0, l0 n n n⟩)] [(8, ⟨[], [(.mem, 0), (.mem, 3), (.mem, 6), (.mem, 8), (.mem, 10), (.mem, 11), (.mem, 12), (.mem, 13), (.mem, 14), (.late, 16), (.step, 1), (.cur, 2), (.step, 4), (.cur, 5), (.step, 7), (.step, 9), (.cur, 15), (.sync, 0), (.step, 17)]⟩)] [] [] (by kernel_rfl) ⟨⟨_, by kernel_rfl, l0_ok n n⟩, trivial⟩ trivial (rs := rs) (by kernel_rfl) (by kernel_rfl) (by kernel_rfl) (by kernel_rfl) (by kernel_rfl) (fun _ => rfl) (fun _ _ => rfl) id (fun _ => rfl) (by intro x; kernel_rfl)
end ref18_Parse
namespace law18_LocalParses
@[reducible] def lin : List (Nat × CS) := [(0, .v (.list (.int .u8)))]
@[reducible] def lout : List (Nat × CS) := [(2, .v .bool)]
noncomputable def ns : NS := nsOf Go.Proofs.Tryd.f4 lin lout
noncomputable def D (n : Nat) : FuncId → Nat → Option Den := lookD [((8, 0), law18_alive.den n), ((14, 0), local_Parse.den n), ((15, 0), ref18_Parse.den n)]
theorem hD (n : Nat) : DenOk Go.Proofs.Tryd.prog Ty.gl (D n) := lookD_ok ⟨law18_alive.sat n, local_Parse.sat n, ref18_Parse.sat n, trivial⟩
def rs : List ResultVar := [.tmp 2]
noncomputable def f (n : Nat) (x : CSs.den lin) : Option (CSs.den lout) := run Ty (D n) (mkH [] [] [] []) ns (cd Go.Proofs.Tryd.f4) (canon lin x) (retK Ty rs (Go.Func.ntmps Go.Proofs.Tryd.f4) lout id)
@[reducible] noncomputable def den (n : Nat) : Den := ⟨lin, lout, [2], [], CSs.den lout, f n, id⟩
theorem sat (n : Nat) : Sat Go.Proofs.Tryd.prog Ty.gl 4 (den n) := sat_is hTy (hD n) Go.Proofs.Tryd.func4 rfl rfl (den n) [] [] [] [] (by kernel_rfl) trivial trivial (rs := rs) (by kernel_rfl) (by kernel_rfl) (by kernel_rfl) (by kernel_rfl) (by kernel_rfl) (fun _ => rfl) (fun _ _ => rfl) id (fun _ => rfl) (by intro x; kernel_rfl)
end law18_LocalParses
namespace law18_LocalRows
@[reducible] def lin : List (Nat × CS) := [(0, .v (.pair (.int .i64) (.pair (.pair (.int .i64) (.pair (.int .i64) (.pair (.int .i64) (.pair (.int .i64) (.pair (.int .i64) (.pair (.int .i64) .unit)))))) (.pair (.int .u32) (.pair (.int .u64) (.pair (.int .u64) (.pair .str .unit))))))), (1, .v (.pair (.int .i64) (.pair (.pair (.int .i64) (.pair (.int .i64) (.pair (.int .i64) (.pair (.int .i64) (.pair (.int .i64) (.pair (.int .i64) .unit)))))) (.pair (.int .u32) (.pair (.int .u64) (.pair (.int .u64) (.pair .str .unit)))))))]
@[reducible] def lout : List (Nat × CS) := [(4, .v .bool)]
noncomputable def ns : NS := nsOf Go.Proofs.Tryd.f6 lin lout
noncomputable def D (n : Nat) : FuncId → Nat → Option Den := lookD [((8, 0), law18_alive.den n), ((9, 0), local_Write.den n), ((16, 0), ref01_Copy.den n), ((14, 0), local_Parse.den n), ((12, 0), ref01_Same.den n)]
theorem hD (n : Nat) : DenOk Go.Proofs.Tryd.prog Ty.gl (D n) := lookD_ok ⟨law18_alive.sat n, local_Write.sat n, ref01_Copy.sat n, local_Parse.sat n, ref01_Same.sat n, trivial⟩
def rs : List ResultVar := [.tmp 4]
noncomputable def f (n : Nat) (x : CSs.den lin) : Option (CSs.den lout) := run Ty (D n) (mkH [] [(14, ⟨[13, 3, 2], [(.mem, 0), (.mem, 1), (.mem, 2), (.mem, 3), (.mem, 4), (.mem, 5), (.mem, 6), (.mem, 7), (.mem, 8), (.mem, 9), (.mem, 10), (.mem, 11), (.mem, 12), (.mem, 13), (.mem, 14), (.mem, 15), (.mem, 17), (.mem, 18), (.mem, 19), (.step, 16), (.cur, 20), (.cur, 21), (.cur, 22)]⟩)] [] []) ns (cd Go.Proofs.Tryd.f6) (canon lin x) (retK Ty rs (Go.Func.ntmps Go.Proofs.Tryd.f6) lout id)
@[reducible] noncomputable def den (n : Nat) : Den := ⟨lin, lout, [4], [], CSs.den lout, f n, id⟩
theorem sat (n : Nat) : Sat Go.Proofs.Tryd.prog Ty.gl 6 (den n) := sat_is hTy (hD n) Go.Proofs.Tryd.func6 rfl rfl (den n) [] [(14, ⟨[13, 3, 2], [(.mem, 0), (.mem, 1), (.mem, 2), (.mem, 3), (.mem, 4), (.mem, 5), (.mem, 6), (.mem, 7), (.mem, 8), (.mem, 9), (.mem, 10), (.mem, 11), (.mem, 12), (.mem, 13), (.mem, 14), (.mem, 15), (.mem, 17), (.mem, 18), (.mem, 19), (.step, 16), (.cur, 20), (.cur, 21), (.cur, 22)]⟩)] [] [] (by kernel_rfl) trivial trivial (rs := rs) (by kernel_rfl) (by kernel_rfl) (by kernel_rfl) (by kernel_rfl) (by kernel_rfl) (fun _ => rfl) (fun _ _ => rfl) id (fun _ => rfl) (by intro x; kernel_rfl)
end law18_LocalRows
namespace law18_LocalSizes
@[reducible] def lin : List (Nat × CS) := [(0, .v (.pair (.int .i64) (.pair (.pair (.int .i64) (.pair (.int .i64) (.pair (.int .i64) (.pair (.int .i64) (.pair (.int .i64) (.pair (.int .i64) .unit)))))) (.pair (.int .u32) (.pair (.int .u64) (.pair (.int .u64) (.pair .str .unit))))))), (1, .v (.int .u64)), (2, .v (.int .u64)), (3, .v (.int .u32))]
@[reducible] def lout : List (Nat × CS) := [(8, .v .bool)]
noncomputable def ns : NS := nsOf Go.Proofs.Tryd.f7 lin lout
noncomputable def D (n : Nat) : FuncId → Nat → Option Den := lookD [((8, 0), law18_alive.den n), ((9, 0), local_Write.den n), ((13, 0), local_Size.den n), ((12, 0), ref01_Same.den n)]
theorem hD (n : Nat) : DenOk Go.Proofs.Tryd.prog Ty.gl (D n) := lookD_ok ⟨law18_alive.sat n, local_Write.sat n, local_Size.sat n, ref01_Same.sat n, trivial⟩
def rs : List ResultVar := [.tmp 8]
noncomputable def f (n : Nat) (x : CSs.den lin) : Option (CSs.den lout) := run Ty (D n) (mkH [] [(16, ⟨[11, 4], [(.mem, 0), (.mem, 1), (.mem, 2), (.mem, 3), (.mem, 4), (.mem, 5), (.mem, 7), (.step, 6), (.cur, 8), (.cur, 9), (.cur, 10), (.mem, 11), (.cur, 12), (.mem, 13), (.cur, 14), (.step, 15), (.cur, 16), (.cur, 17), (.mem, 18), (.mem, 19), (.mem, 20), (.mem, 21), (.mem, 22), (.cur, 23), (.mem, 25), (.mem, 26), (.step, 24), (.cur, 27), (.cur, 28), (.cur, 29)]⟩)] [] []) ns (cd Go.Proofs.Tryd.f7) (canon lin x) (retK Ty rs (Go.Func.ntmps Go.Proofs.Tryd.f7) lout id)
@[reducible] noncomputable def den (n : Nat) : Den := ⟨lin, lout, [8], [], CSs.den lout, f n, id⟩
theorem sat (n : Nat) : Sat Go.Proofs.Tryd.prog Ty.gl 7 (den n) := sat_is hTy (hD n) Go.Proofs.Tryd.func7 rfl rfl (den n) [] [(16, ⟨[11, 4], [(.mem, 0), (.mem, 1), (.mem, 2), (.mem, 3), (.mem, 4), (.mem, 5), (.mem, 7), (.step, 6), (.cur, 8), (.cur, 9), (.cur, 10), (.mem, 11), (.cur, 12), (.mem, 13), (.cur, 14), (.step, 15), (.cur, 16), (.cur, 17), (.mem, 18), (.mem, 19), (.mem, 20), (.mem, 21), (.mem, 22), (.cur, 23), (.mem, 25), (.mem, 26), (.step, 24), (.cur, 27), (.cur, 28), (.cur, 29)]⟩)] [] [] (by kernel_rfl) trivial trivial (rs := rs) (by kernel_rfl) (by kernel_rfl) (by kernel_rfl) (by kernel_rfl) (by kernel_rfl) (fun _ => rfl) (fun _ _ => rfl) id (fun _ => rfl) (by intro x; kernel_rfl)
end law18_LocalSizes
namespace ref18_Check
@[reducible] def lin : List (Nat × CS) := [(0, .v (.pair (.int .i64) (.pair (.pair (.int .i64) (.pair (.int .i64) (.pair (.int .i64) (.pair (.int .i64) (.pair (.int .i64) (.pair (.int .i64) .unit)))))) (.pair (.int .u32) (.pair (.int .u64) (.pair (.int .u64) (.pair .str .unit)))))))]
@[reducible] def lout : List (Nat × CS) := [(2, .v (.int .i64))]
noncomputable def ns : NS := nsOf Go.Proofs.Tryd.f23 lin lout
noncomputable def D (n : Nat) : FuncId → Nat → Option Den := lookD [((41, 0), ref17_Right.den n), ((36, 0), ref16_Check.den n)]
theorem hD (n : Nat) : DenOk Go.Proofs.Tryd.prog Ty.gl (D n) := lookD_ok ⟨ref17_Right.sat n, ref16_Check.sat n, trivial⟩
def rs : List ResultVar := [.tmp 2]
noncomputable def f (n : Nat) (x : CSs.den lin) : Option (CSs.den lout) := run Ty (D n) (mkH [] [] [] []) ns (cd Go.Proofs.Tryd.f23) (canon lin x) (retK Ty rs (Go.Func.ntmps Go.Proofs.Tryd.f23) lout id)
@[reducible] noncomputable def den (n : Nat) : Den := ⟨lin, lout, [2], [], CSs.den lout, f n, id⟩
theorem sat (n : Nat) : Sat Go.Proofs.Tryd.prog Ty.gl 23 (den n) := sat_is hTy (hD n) Go.Proofs.Tryd.func23 rfl rfl (den n) [] [] [] [] (by kernel_rfl) trivial trivial (rs := rs) (by kernel_rfl) (by kernel_rfl) (by kernel_rfl) (by kernel_rfl) (by kernel_rfl) (fun _ => rfl) (fun _ _ => rfl) id (fun _ => rfl) (by intro x; kernel_rfl)
end ref18_Check
namespace ref18_Write
@[reducible] def lin : List (Nat × CS) := [(0, .v (.pair (.int .i64) (.pair (.pair (.int .i64) (.pair (.int .i64) (.pair (.int .i64) (.pair (.int .i64) (.pair (.int .i64) (.pair (.int .i64) .unit)))))) (.pair (.int .u32) (.pair (.int .u64) (.pair (.int .u64) (.pair .str .unit)))))))]
@[reducible] def lout : List (Nat × CS) := [(2, .own 5 (.int .u8)), (3, .v (.int .i64))]
noncomputable def ns : NS := nsOf Go.Proofs.Tryd.f10 lin lout
noncomputable def D (n : Nat) : FuncId → Nat → Option Den := lookD [((23, 0), ref18_Check.den n), ((24, 0), ref18_bytes.den n)]
theorem hD (n : Nat) : DenOk Go.Proofs.Tryd.prog Ty.gl (D n) := lookD_ok ⟨ref18_Check.sat n, ref18_bytes.sat n, trivial⟩
def rs : List ResultVar := [.tmp 2, .tmp 3]
noncomputable def f (n : Nat) (x : CSs.den lin) : Option (CSs.den lout) := run Ty (D n) (mkH [] [] [] []) ns (cd Go.Proofs.Tryd.f10) (canon lin x) (retK Ty rs (Go.Func.ntmps Go.Proofs.Tryd.f10) lout id)
@[reducible] noncomputable def den (n : Nat) : Den := ⟨lin, lout, [2, 3], [none], CSs.den lout, f n, id⟩
theorem sat (n : Nat) : Sat Go.Proofs.Tryd.prog Ty.gl 10 (den n) := sat_is hTy (hD n) Go.Proofs.Tryd.func10 rfl rfl (den n) [] [] [] [] (by kernel_rfl) trivial trivial (rs := rs) (by kernel_rfl) (by kernel_rfl) (by kernel_rfl) (by kernel_rfl) (by kernel_rfl) (fun _ => rfl) (fun _ _ => rfl) id (fun _ => rfl) (by intro x; kernel_rfl)
end ref18_Write
namespace law18_LocalWrites
@[reducible] def lin : List (Nat × CS) := [(0, .v (.pair (.int .i64) (.pair (.pair (.int .i64) (.pair (.int .i64) (.pair (.int .i64) (.pair (.int .i64) (.pair (.int .i64) (.pair (.int .i64) .unit)))))) (.pair (.int .u32) (.pair (.int .u64) (.pair (.int .u64) (.pair .str .unit)))))))]
@[reducible] def lout : List (Nat × CS) := [(2, .v .bool)]
noncomputable def ns : NS := nsOf Go.Proofs.Tryd.f3 lin lout
noncomputable def D (n : Nat) : FuncId → Nat → Option Den := lookD [((8, 0), law18_alive.den n), ((9, 0), local_Write.den n), ((10, 0), ref18_Write.den n), ((11, 0), ref18_Great.den n), ((12, 0), ref01_Same.den n), ((13, 0), local_Size.den n)]
theorem hD (n : Nat) : DenOk Go.Proofs.Tryd.prog Ty.gl (D n) := lookD_ok ⟨law18_alive.sat n, local_Write.sat n, ref18_Write.sat n, ref18_Great.sat n, ref01_Same.sat n, local_Size.sat n, trivial⟩
def rs : List ResultVar := [.tmp 2]
noncomputable def f (n : Nat) (x : CSs.den lin) : Option (CSs.den lout) := run Ty (D n) (mkH [] [] [] []) ns (cd Go.Proofs.Tryd.f3) (canon lin x) (retK Ty rs (Go.Func.ntmps Go.Proofs.Tryd.f3) lout id)
@[reducible] noncomputable def den (n : Nat) : Den := ⟨lin, lout, [2], [], CSs.den lout, f n, id⟩
theorem sat (n : Nat) : Sat Go.Proofs.Tryd.prog Ty.gl 3 (den n) := sat_is hTy (hD n) Go.Proofs.Tryd.func3 rfl rfl (den n) [] [] [] [] (by kernel_rfl) trivial trivial (rs := rs) (by kernel_rfl) (by kernel_rfl) (by kernel_rfl) (by kernel_rfl) (by kernel_rfl) (fun _ => rfl) (fun _ _ => rfl) id (fun _ => rfl) (by intro x; kernel_rfl)
end law18_LocalWrites
namespace utf8_decodeRuneInStringSlow
@[reducible] def lin : List (Nat × CS) := [(0, .v .str)]
@[reducible] def lout : List (Nat × CS) := [(2, .v (.int .i32)), (3, .v (.int .i64))]
noncomputable def ns : NS := nsOf Go.Proofs.Tryd.f61 lin lout
noncomputable def D (n : Nat) : FuncId → Nat → Option Den := lookD []
theorem hD (n : Nat) : DenOk Go.Proofs.Tryd.prog Ty.gl (D n) := lookD_ok trivial
def rs : List ResultVar := [.tmp 2, .tmp 3]
noncomputable def f (n : Nat) (x : CSs.den lin) : Option (CSs.den lout) := run Ty (D n) (mkH [] [] [] []) ns (cd Go.Proofs.Tryd.f61) (canon lin x) (retK Ty rs (Go.Func.ntmps Go.Proofs.Tryd.f61) lout id)
@[reducible] noncomputable def den (n : Nat) : Den := ⟨lin, lout, [2, 3], [], CSs.den lout, f n, id⟩
theorem sat (n : Nat) : Sat Go.Proofs.Tryd.prog Ty.gl 61 (den n) := sat_is hTy (hD n) Go.Proofs.Tryd.func61 rfl rfl (den n) [] [] [] [] (by kernel_rfl) trivial trivial (rs := rs) (by kernel_rfl) (by kernel_rfl) (by kernel_rfl) (by kernel_rfl) (by kernel_rfl) (fun _ => rfl) (fun _ _ => rfl) id (fun _ => rfl) (by intro x; kernel_rfl)
end utf8_decodeRuneInStringSlow
namespace utf8_DecodeRuneInString
@[reducible] def lin : List (Nat × CS) := [(0, .v .str)]
@[reducible] def lout : List (Nat × CS) := [(2, .v (.int .i32)), (3, .v (.int .i64))]
noncomputable def ns : NS := nsOf Go.Proofs.Tryd.f59 lin lout
noncomputable def D (n : Nat) : FuncId → Nat → Option Den := lookD [((61, 0), utf8_decodeRuneInStringSlow.den n)]
theorem hD (n : Nat) : DenOk Go.Proofs.Tryd.prog Ty.gl (D n) := lookD_ok ⟨utf8_decodeRuneInStringSlow.sat n, trivial⟩
def rs : List ResultVar := [.tmp 2, .tmp 3]
noncomputable def f (n : Nat) (x : CSs.den lin) : Option (CSs.den lout) := run Ty (D n) (mkH [] [] [] []) ns (cd Go.Proofs.Tryd.f59) (canon lin x) (retK Ty rs (Go.Func.ntmps Go.Proofs.Tryd.f59) lout id)
@[reducible] noncomputable def den (n : Nat) : Den := ⟨lin, lout, [2, 3], [], CSs.den lout, f n, id⟩
theorem sat (n : Nat) : Sat Go.Proofs.Tryd.prog Ty.gl 59 (den n) := sat_is hTy (hD n) Go.Proofs.Tryd.func59 rfl rfl (den n) [] [] [] [] (by kernel_rfl) trivial trivial (rs := rs) (by kernel_rfl) (by kernel_rfl) (by kernel_rfl) (by kernel_rfl) (by kernel_rfl) (fun _ => rfl) (fun _ _ => rfl) id (fun _ => rfl) (by intro x; kernel_rfl)
end utf8_DecodeRuneInString
end Go.Proofs.YtdbaglogmdkbpaaDoor.Vm
